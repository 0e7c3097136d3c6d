/- Part of the lift: an abstract walk of the program's code, proved sound, and what it shows of this program. -/
import Derived.Test.YtjgmoglhbdgmpaaGreatPart1
import Derived.Laws.BytesString
import Derived.Laws.IdiomStrings
namespace Go.Bv
open Go
/-- A row that is cut goes on as a row of its own. -/
theorem cut_row {C : Ctx} (hC : HRep C) {id : Nat} {k : RK} {sh : Sh} {es : List AV} (hid : C.H[id]? = some (.row k sh es)) (hk : k ≠ .box) {n : Nat} (hn : n ≤ es.length) {v : Value}
  (hv : (Blk.row k sh es).live → v = .slice (some ⟨C.β id, 0, none⟩) n n) (hv0 : ∃ ad, v = .slice ad n n) :
  ∃ C' : Ctx, C'.w = C.w ∧ C'.H = C.H.set id .dead ++ [.row k sh (es.take n)] ∧ Ext C C' ∧ HRep C' ∧ RT C' v (.own C.H.length 0 n) := by
 have hlt := (List.getElem?_eq_some_iff.1 hid).1
 have hlen : (es.take n).length = n := by simp; omega
 have hnew : ∀ {b : Blk}, (C.H.set id .dead ++ [.row k sh (es.take n)])[C.H.length]? = some b → b = .row k sh (es.take n) := fun {b} hb => by
  have : C.H.length = (C.H.set id .dead).length := by simp
  rw [this, List.getElem?_append_right (Nat.le_refl _)] at hb
  simp at hb
  exact hb.symm
 by_cases hl : (Blk.row k sh es).live
 ·obtain ⟨c, T, fr, hc, hfz, hsz, hone, hel⟩ := hC.row id k sh es hid hl
  have hw : World.write C.w (C.β id) c T fr = C.w := by
   unfold World.write
   have : C.w.heap.setIfInBounds (C.β id) (.cells c T fr) = C.w.heap := by
    apply Array.ext_getElem?
    intro q
    rw [Array.getElem?_setIfInBounds]
    split
    ·rename_i e; subst e
     rw [if_pos (Array.getElem?_eq_some_iff.1 hc).1, hc]
    ·rfl
   rw [this]
  have hE := mv_ext (c' := c) hC hid hl (es' := es.take n) hc
  have hrow : RowAt ⟨World.write C.w (C.β id) c T fr, C.F, fun i => if i = C.H.length then C.β id else C.β i, C.H.set id .dead ++ [.row k sh (es.take n)]⟩ (C.β id) k sh (es.take n) := by
   refine ⟨c, T, fr, by rw [hw]; exact hc, hfz, ?_, hone, fun i hi => ?_⟩
   ·rw [hlen]; exact Nat.le_trans (Nat.mul_le_mul_right _ hn) hsz
   ·rw [hlen] at hi
    obtain ⟨u, h1, h2, h3, h4⟩ := hel i (by omega)
    exact ⟨u, by rw [List.getElem_take]; exact hE.RA h1, fun hk => by rw [List.getElem_take]; exact hE.RP (h2 hk), h3, h4⟩
  have hC' := mv_hrep hC hid hl hc hrow
  rw [hw] at hE hC'
  refine ⟨⟨C.w, C.F, fun i => if i = C.H.length then C.β id else C.β i, C.H.set id .dead ++ [.row k sh (es.take n)]⟩, rfl, rfl, hE, hC', by obtain ⟨ad, rfl⟩ := hv0; rfl, by simp, fun k2 s2 es2 he => ?_, fun k2 s2 es2 he => ?_, fun s2 es2 he => ?_⟩
  ·cases hnew he
   refine ⟨fun hnl => ?_, fun _ => ⟨n, by rw [hv hl]; simp, Nat.le_refl _, by omega, c, T, fr, by simp [hc], ?_⟩⟩
   ·have h0 := (Blk.not_live_row hnl).2
    have : n = 0 := by rw [h0] at hlen; simpa using hlen.symm
    subst this
    exact ⟨_, hv hl, rfl⟩
   ·rw [Nat.zero_add]; exact Nat.le_trans (Nat.mul_le_mul_right _ hn) hsz
  ·cases hnew he; omega
  ·cases hnew he
 ·obtain ⟨rfl, rfl⟩ := Blk.not_live_row hl
  obtain ⟨ad, rfl⟩ := hv0
  simp only [List.length_nil, Nat.le_zero] at hn
  subst hn
  obtain ⟨C2, hw2, hH2, hE2, hC2, hr2⟩ := new_none (kill_hrep hC id) (w' := C.w) (fun _ _ => rfl) (Nat.le_refl _) rfl rfl rfl (hC.sz id _ _ _ hid) ad
  simp only [List.length_set] at hr2
  exact ⟨C2, hw2, by simpa using hH2, (kill_ext hC id).trans hE2, hC2, hr2⟩
section
variable {P : Program} (Γ : Tab P) {C : Ctx} (hC : HRep C) {a : Act} {fr : Fr} (hf : FrOk C a fr) {o : Oper} {next : AV → List Blk → Prop}
include hC hf
omit hC hf in
theorem run_sb {w : World} {k : IntKind} {i : Int} {y : Nat} {code : BoundsCode} (h0 : 0 ≤ i) (h1 : i.toNat ≤ y) : (Instr.sliceBound (.int k i) y code).run P w = .ok i.toNat w :=
 run_sliceBound w k i y code h0 (by omega)
theorem snd_indexAddr {t : TypeId} {x ix : Operand} (ho : o.op = .indexAddr t x ix) (h : aop Γ fr (.indexAddr t x ix) C.H next) : Snd P o a C next := by
 simp only [aop] at h
 have hx := hf.evT x
 have hix := hf.ev ix
 split at h
 ·rename_i sh0 by0 e z0 hti
  obtain ⟨i, d, hi⟩ := Γ.info hti
  have hd := hi.slice rfl; subst hd
  split at h
  ·rename_i sh by' kd z hte
   obtain ⟨i', d', hi'⟩ := Γ.info hte
   have fin : ∀ {b o' : Nat} {n c : Nat} {k : IntKind} {m : Int} {r : AV}, a.eval x = .slice (some ⟨b, o', none⟩) n c → a.eval ix = .int k m → 0 ≤ m → m.toNat < n → next r C.H → RT C (.pointer (some ⟨b, o' + m.toNat * sh.size, none⟩)) r → Snd P o a C next := by
    intro b o' n c k m r hv hm h0 h1 hn hr
    refine ⟨r, _, hn, Yield.same hC ?_ hr⟩
    simp only [execOp, ho, hv, hm]
    simp only [Instr.indexAt, asIntOf, Sem.run_bind, Sem.run_pure, Result.andThen_ok, run_und C.w hi.und]
    rw [if_pos ⟨h0, by omega⟩]
    simp only [Sem.run_bind, run_sz C.w hi'.info, hi'.sz, Result.andThen_ok, Sem.run_pure, addr_add]
   split at h
   ·rename_i s l hxe
    split at h
    ·rename_i hb
     have := Sh.beq_eq hb; subst this
     unfold intA at h
     split at h
     ·rename_i k m hie
      rw [hie] at hix
      obtain ⟨h0, e', he, h⟩ := h
      obtain ⟨hlt, rfl⟩ := List.getElem?_eq_some_iff.1 he
      rw [hxe] at hx
      have hx : RP C.w C.G (a.eval x) (.list sh l) := hx
      generalize hv : a.eval x = v at hx
      cases hx with
      | list0 => simp at hlt
      | list _ b o' c _ vs hc hb' hr hs hcell =>
       refine fin hv hix.int h0 hlt h ?_
       have := RP.at (w := C.w) (G := C.G) sh b (o' + m.toNat * sh.size) 0 (vs m.toNat) l[m.toNat] hb' (hr _ hlt) (hs _ hlt) (fun j hj => hcell _ j hlt hj)
       exact this
     ·exact h.elim
    ·exact h.elim
   ·rename_i id off len hxe
    rw [hxe] at hx
    split at h
    ·rename_i kk s es hid
     split at h
     ·exact h.elim
     ·split at h
      ·rename_i hb
       have := Sh.beq_eq hb; subst this
       unfold intA at h
       split at h
       ·rename_i k m hie
        rw [hie] at hix
        obtain ⟨⟨h0, h1, h2⟩, h⟩ := h
        have hx0 := hx
        obtain ⟨_, hlt, hv, _⟩ := hx
        have hlive : (Blk.row kk sh es).live := by cases kk <;> simp [Blk.live]; intro h0; subst h0; simp at h2; omega
        obtain ⟨cap, hv, _⟩ := (hv kk sh es hid).2 hlive
        refine fin hv hix.int h0 (by omega) h ⟨rfl, hlt, fun k2 s2 es2 he => ?_⟩
        rw [hid] at he; cases he
        rw [Nat.add_mul, Nat.add_zero]
       ·exact h.elim
      ·exact h.elim
    ·exact h.elim
   ·exact h.elim
  ·exact h.elim
 ·rename_i sh0 by0 n e z0 hti
  obtain ⟨i, d, hi⟩ := Γ.info hti
  have hd := hi.array rfl; subst hd
  split at h
  ·rename_i sh by' kd z hte
   obtain ⟨i', d', hi'⟩ := Γ.info hte
   split at h
   ·rename_i id j o' hxe
    split at h
    ·rename_i kk s es hid
     unfold intA at h
     split at h
     ·rename_i k m hie
      rw [hie] at hix
      obtain ⟨⟨h0, h1⟩, h⟩ := h
      have hx := hf.ev x
      rw [hxe] at hx
      have hp := hx.ptr hid
      have hkm := hix.int
      refine ⟨_, _, h, Yield.same hC (v := .pointer (some ⟨C.β id, j * s.size + o' + m.toNat * sh.size, none⟩)) ?_ ⟨rfl, hx.2.1, fun kk' s' es' he => ?_⟩⟩
      ·simp only [execOp, ho, hp, hkm]
       simp only [Instr.indexAt, asIntOf, Sem.run_bind, Sem.run_pure, Result.andThen_ok, run_und C.w hi.und, Instr.sureAddr]
       rw [if_pos ⟨h0, h1⟩]
       simp only [Sem.run_bind, run_sz C.w hi'.info, hi'.sz, Result.andThen_ok, Sem.run_pure, addr_add]
      ·rw [hid] at he; cases he
       rw [Nat.add_assoc]
     ·exact h.elim
    ·exact h.elim
   ·exact h.elim
  ·exact h.elim
 ·exact h.elim
theorem snd_convert {src dst : TypeId} {x : Operand} (ho : o.op = .convert src dst x) (h : aop Γ fr (.convert src dst x) C.H next) : Snd P o a C next := by
 simp only [aop] at h
 have hx := hf.ev x
 split at h
 ·rename_i sh0 by0 k z0 hti
  obtain ⟨i, d, hi⟩ := Γ.info hti
  have hd := hi.int rfl; subst hd
  split at h
  ·rename_i k' n hxe
   rw [hxe] at hx
   have hx := hx.int
   split at h
   ·rename_i sh1 by1 k1 z1 hts
    obtain ⟨i1, d1, hi1⟩ := Γ.info hts
    have hd1 := hi1.int rfl; subst hd1
    obtain ⟨z, rfl, h⟩ := h
    refine ⟨_, _, h, Yield.same hC (v := .int k (k.wrap n)) ?_ (RP.int (w := C.w) (G := C.G) _ _).RT⟩
    simp only [execOp, ho, hx, convert, Sem.run_bind, run_und C.w hi1.und, run_und C.w hi.und, Result.andThen_ok, Conv.intToInt, Sem.run_pure]
   ·exact h.elim
  ·exact h.elim
 ·rename_i sh0 by0 z0 hti
  obtain ⟨i, d, hi⟩ := Γ.info hti
  have hd := hi.str rfl; subst hd
  split at h
  ·rename_i sh1 by1 z1 hts
   obtain ⟨i1, d1, hi1⟩ := Γ.info hts
   have hd1 := hi1.str rfl; subst hd1
   split at h
   ·rename_i s hxe
    rw [hxe] at hx
    obtain ⟨b, hb, rfl⟩ := hx.str
    refine ⟨_, _, h, Yield.same hC (v := .string b) ?_ (RP.str (w := C.w) (G := C.G) b).RT⟩
    simp only [execOp, ho, hb, convert, Sem.run_bind, run_und C.w hi1.und, run_und C.w hi.und, Result.andThen_ok, Sem.run_pure]
   ·exact h.elim
  ·rename_i sh1 by1 e z1 hts
   obtain ⟨i1, d1, hi1⟩ := Γ.info hts
   have hd1 := hi1.slice rfl; subst hd1
   split at h
   ·rename_i sh2 by2 z2 hte
    obtain ⟨i2, d2, hi2⟩ := Γ.info hte
    have hd2 := hi2.int rfl; subst hd2
    obtain ⟨l, cells, ad, cap, ⟨hby, h⟩, hlay, hv, hcap, hfc⟩ := elems_snd (P := P) hC (hf.evT x) (sh := .leaf) (by simp [Sh.size]) h
    let ns : List Int := l.map fun x => match x with | .int _ n => n | _ => 0
    have hcells : cells = (ns.map (Value.int .u8)).toArray := by
     have hsz : cells.size = l.length := by simpa [Sh.size] using hlay.1
     apply Array.ext
     ·simp [ns, hsz]
     ·intro q h1 h2
      obtain ⟨u, hu, hs, hc⟩ := hlay.2 q (by omega)
      obtain ⟨n, hn⟩ := hby _ (List.getElem_mem (show q < l.length by omega))
      have hc := hc 0 (by simp [Sh.size])
      rw [cells_one hs] at hc
      simp only [Sh.size, Nat.mul_one, Nat.add_zero] at hc
      rw [Array.getElem?_eq_getElem h1] at hc
      simp at hc
      rw [hc]
      rw [hn] at hu
      rw [hu.int']
      simp [ns, hn]
    have hfold : ns.foldl (fun r n => r.push (UInt8.ofNat n.toNat)) ByteArray.empty = ⟨(l.map byteOf).toArray⟩ := by
     have : ∀ (l : List AV) (r : ByteArray), (∀ a ∈ l, isByte a) → (l.map fun x => match x with | .int _ n => n | _ => (0 : Int)).foldl (fun r n => r.push (UInt8.ofNat n.toNat)) r = ⟨r.data ++ (l.map byteOf).toArray⟩ := by
      intro l
      induction l with
      | nil => intro r _; simp
      | cons y l ih =>
       intro r hb
       obtain ⟨n, rfl⟩ := hb y (by simp)
       simp only [List.map_cons, List.foldl_cons]
       rw [ih _ fun a ha => hb a (by simp [ha])]
       simp [ByteArray.push, byteOf]
     exact (this l ByteArray.empty hby).trans (by show ByteArray.mk (#[] ++ _) = _; rw [Array.empty_append])
    have hres : (Conv.bytesToString (a.eval x)).run P C.w = .ok (.string ⟨(l.map byteOf).toArray⟩) C.w := by
     rw [hv]
     cases ad with
     | none =>
      have h0 : cells = #[] := by
       have := hfc C.w rfl
       rw [hv] at this
       simp only [Builtin.firstCells, Sem.run_pure, Result.ok.injEq] at this
       exact this.1.symm
      have : l = [] := by
       have := hlay.1; rw [h0] at this; simp [Sh.size] at this; exact List.eq_nil_of_length_eq_zero this.symm
      subst this
      rfl
     | some ad =>
      have hl := hfc C.w rfl
      rw [hv] at hl
      simp only [Builtin.firstCells, Sh.size, Nat.mul_one] at hl
      rw [hcells] at hl
      rw [run_bytesToString C.w ad l.length cap ns hl, hfold]
    refine ⟨_, _, h, Yield.same hC (v := .string ⟨(l.map byteOf).toArray⟩) ?_ ?_⟩
    ·simp only [execOp, ho]
     rw [hv] at hres ⊢
     have hcv : (convert src dst (.slice ad l.length cap)).run P C.w = .ok (.string ⟨(l.map byteOf).toArray⟩) C.w := by
      simp only [convert, Sem.run_bind, run_und C.w hi1.und, run_und C.w hi.und, Result.andThen_ok, run_und C.w hi2.und]
      cases ad <;> exact hres
     rw [Sem.run_bind, hcv]; rfl
    ·exact (RP.str (w := C.w) (G := C.G) ⟨(l.map byteOf).toArray⟩).RT
   ·exact h.elim
  ·exact h.elim
 ·rename_i sh0 by0 e z0 hti
  obtain ⟨i, d, hi⟩ := Γ.info hti
  have hd := hi.slice rfl; subst hd
  split at h
  ·rename_i sh1 by1 z1 hts
   obtain ⟨i1, d1, hi1⟩ := Γ.info hts
   have hd1 := hi1.str rfl; subst hd1
   split at h
   ·rename_i sh2 by2 z2 hte
    obtain ⟨i2, d2, hi2⟩ := Γ.info hte
    have hd2 := hi2.int rfl; subst hd2
    split at h
    ·rename_i s hxe
     rw [hxe] at hx
     obtain ⟨b, hb, rfl⟩ := hx.str
     obtain ⟨hbd, h⟩ := h
     have hr := run_bytes_of_string (P := P) C.w src dst e b hi1.und hi.und hi2.und
     have hg : b.size ≤ grownCap C.w b.size 0 e := Nat.le_add_right _ _
     have hlay : Lay C.w C.G .leaf (b.data.map fun c => .int .u8 c.toNat) (b.data.toList.map fun c => .int .u8 c.toNat) := by
      refine ⟨by simp [Sh.size], fun q hq => ?_⟩
      simp only [List.length_map, Array.length_toList] at hq
      refine ⟨.int .u8 (b.data[q]).toNat, by simp only [List.getElem_map, Array.getElem_toList]; exact .int _ _, rfl, fun j hj => ?_⟩
      simp only [Sh.size] at hj
      have : j = 0 := by omega
      subst this
      simp [Value.cells, Sh.size, Array.getElem?_eq_getElem hq]
     have hlb : bytesRow b (grownCap C.w b.size 0 e) = (b.data.map fun c => .int .u8 c.toNat) ++ Array.replicate (grownCap C.w b.size 0 e - b.size) (.int .u8 0) := rfl
     have hsz : (bytesRow b (grownCap C.w b.size 0 e)).size = grownCap C.w b.size 0 e := by
      rw [hlb]; simp
      have : b.data.size = b.size := rfl
      omega
     obtain ⟨C2, hw2, hH2, hE2, hC2, hr2⟩ := new_row hC (k := .row) (push_pre C.w.drew (.cells (bytesRow b (grownCap C.w b.size 0 e)) e ((bytesRow b (grownCap C.w b.size 0 e)).size, (bytesRow b (grownCap C.w b.size 0 e)).size + 1))) rfl rfl rfl
      (by rw [← hlb]; exact alloc_last _ _) (by rw [← hlb]; exact .inr (Nat.le_refl _))
      (fun o x hx => by
       rw [Array.getElem?_replicate] at hx
       split at hx <;> simp at hx
       subst hx; rfl) hlay (by simp [Sh.size]) (cap := grownCap C.w b.size 0 e) (by rw [← hlb, hsz]; simp [Sh.size]) (by simpa using hg) (fun hh => by cases hh)
     simp only [List.length_map, Array.length_toList] at hr2 h
     refine Snd.mk h ⟨C2, hw2, hH2, hE2, hC2, hr2⟩ ?_
     simp only [execOp, ho, hb]
     rw [Sem.run_bind, hr]; rfl
    ·exact h.elim
   ·exact h.elim
  ·rename_i sh1 by1 e1 z1 hts
   split at h
   ·rename_i hsd
    have hsd := Nat.eq_of_beq_eq_true hsd
    subst hsd
    split at h
    ·rename_i sh2 by2 z2 hte
     obtain ⟨i2, d2, hi2⟩ := Γ.info hte
     have hd2 := hi2.int rfl; subst hd2
     split at h
     ·rename_i id off len hxe
      rw [hxe] at hx
      have hx0 := hx
      obtain ⟨hone, hid, hv, hvb, hvr⟩ := hx0
      split at h
      ·rename_i sh es hrow
       have hlive : (Blk.row .row sh es).live := trivial
       obtain ⟨cap, hvv, hlc, hes, c0, T0, fz0, hc0, hcs⟩ := (hv .row sh es hrow).2 hlive
       obtain ⟨c, T, fz, hc, hfz, hsz, hone', hel⟩ := hC.row id .row sh es hrow hlive
       have hwr : C.w.freeze { block := C.β id, off := c.size } 1 = World.write C.w (C.β id) c T (if fz.1 == fz.2 then (c.size, c.size + 1) else (min fz.1 c.size, max fz.2 (c.size + 1))) := by
        have hlt := (Array.getElem?_eq_some_iff.1 hc).1
        unfold World.freeze World.write
        rw [if_neg (by decide)]
        congr 1
        apply Array.ext_getElem?
        intro q
        rw [Array.getElem?_modify, Array.getElem?_setIfInBounds]
        by_cases hq : C.β id = q
        ·subst hq
         rw [if_pos rfl, if_pos rfl, if_pos hlt, hc]
         rfl
        ·rw [if_neg hq, if_neg hq]
       have hfz' : (if fz.1 == fz.2 then (c.size, c.size + 1) else (min fz.1 c.size, max fz.2 (c.size + 1))).1 = c.size := by
        split
        ·rfl
        ·rename_i hne
         rcases hfz with hfz | hfz
         ·simp [hfz] at hne
         ·exact Nat.min_eq_right hfz
       have hHs : C.H.set id (.row .row sh es) = C.H := by
        apply List.ext_getElem?
        intro q
        rw [List.getElem?_set]
        split
        ·rename_i e; subst e; rw [hrow]
        ·rfl
       have hE1 := set_ext0 (T := T) (fr := if fz.1 == fz.2 then (c.size, c.size + 1) else (min fz.1 c.size, max fz.2 (c.size + 1))) hC hrow hlive rfl hc rfl
       have hC1 := set_hrep0 (T := T) (fr := if fz.1 == fz.2 then (c.size, c.size + 1) else (min fz.1 c.size, max fz.2 (c.size + 1))) hC hrow hlive rfl hc rfl
        ⟨c, T, _, by simp [World.write, (Array.getElem?_eq_some_iff.1 hc).1], .inr (Nat.le_of_eq hfz'.symm), hsz, hone', fun q hq => by
         obtain ⟨v, h1, h2, h3, h4⟩ := hel q hq
         exact ⟨v, hE1.RA h1, fun hk => hE1.RP (h2 hk), h3, h4⟩⟩
       rw [hHs] at hE1 hC1
       refine ⟨_, _, h, Yield.of (C' := { C with w := World.write C.w (C.β id) c T (if fz.1 == fz.2 then (c.size, c.size + 1) else (min fz.1 c.size, max fz.2 (c.size + 1))) }) (v := a.eval x) ?_ hE1 hC1 (hE1.RT hx)⟩
       simp only [execOp, ho]
       have hcv : (convert src src (a.eval x)).run P C.w = .ok (a.eval x) (World.write C.w (C.β id) c T (if fz.1 == fz.2 then (c.size, c.size + 1) else (min fz.1 c.size, max fz.2 (c.size + 1)))) := by
        rw [hvv]
        simp only [convert, Sem.run_bind, run_und C.w hi.und, Result.andThen_ok, run_und C.w hi2.und, beq_self_eq_true, markStringish, run_shape, World.shape?, hc, run_freeze, hwr, Sem.run_pure]
       rw [Sem.run_bind, hcv]; rfl
      ·exact h.elim
     ·exact h.elim
    ·exact h.elim
   ·exact h.elim
  ·exact h.elim
 ·exact h.elim
omit hC hf in
omit hC hf in
theorem bounds_snd {isS : Bool} {len cap : Nat} {lo hi : Option Operand} {l h : Nat} (hl : ∀ x, lo = some x → ∃ k n, a.eval x = .int k n ∧ 0 ≤ n ∧ n.toNat = l) (hl0 : lo = none → l = 0)
  (hh : ∀ x, hi = some x → ∃ k n, a.eval x = .int k n ∧ 0 ≤ n ∧ n.toNat = h) (hh0 : hi = none → h = len) (h1 : l ≤ h) (h2 : h ≤ cap) (w : World) :
  (Instr.sliceBounds isS len cap (lo.map a.eval) (hi.map a.eval) none).run P w = .ok (l, h, cap) w := by
 unfold Instr.sliceBounds
 cases lo with
 | none =>
  have := hl0 rfl; subst this
  cases hi with
  | none => have := hh0 rfl; subst this; rfl
  | some y =>
   obtain ⟨k, n, hv, h0, hn⟩ := hh y rfl
   have hb := run_sb (P := P) (w := w) (k := k) (i := n) (y := cap) (code := if isS then .sliceAcap else .sliceAlen) h0 (by omega)
   rw [hn] at hb
   simp only [Option.map_none, Option.map_some, Sem.run_bind, Sem.run_pure, Result.andThen_ok, hv, hb]
 | some x =>
  obtain ⟨k, n, hv, h0, hn⟩ := hl x rfl
  have hb := run_sb (P := P) (w := w) (k := k) (i := n) (y := h) (code := .sliceB) h0 (by omega)
  rw [hn] at hb
  cases hi with
  | none =>
   have := hh0 rfl; subst this
   simp only [Option.map_none, Option.map_some, Sem.run_bind, Sem.run_pure, Result.andThen_ok, hv, Option.isSome_none, Bool.false_eq_true, if_false, hb]
  | some y =>
   obtain ⟨k', m, hv', h0', hm⟩ := hh y rfl
   have hb' := run_sb (P := P) (w := w) (k := k') (i := m) (y := cap) (code := if isS then .sliceAcap else .sliceAlen) h0' (by omega)
   rw [hm] at hb'
   simp only [Option.map_some, Sem.run_bind, Sem.run_pure, Result.andThen_ok, hv, hv', hb', Option.isSome_none, Bool.false_eq_true, if_false, hb]
omit hC hf in
theorem bounds3_snd {len cap : Nat} {lo : Option Operand} {hi mx : Operand} {l h m : Nat} (hl : ∀ x, lo = some x → ∃ k n, a.eval x = .int k n ∧ 0 ≤ n ∧ n.toNat = l) (hl0 : lo = none → l = 0)
  {kh km : IntKind} {ih im : Int} (hh : a.eval hi = .int kh ih) (hh0 : 0 ≤ ih) (hh1 : ih.toNat = h) (hm : a.eval mx = .int km im) (hm0 : 0 ≤ im) (hm1 : im.toNat = m) (h1 : l ≤ h) (h2 : h ≤ m) (h3 : m ≤ cap) (w : World) :
  (Instr.sliceBounds true len cap (lo.map a.eval) (some (a.eval hi)) (some (a.eval mx))).run P w = .ok (l, h, m) w := by
 unfold Instr.sliceBounds
 have b1 := run_sb (P := P) (w := w) (k := km) (i := im) (y := cap) (code := .slice3Acap) hm0 (by omega)
 have b2 := run_sb (P := P) (w := w) (k := kh) (i := ih) (y := m) (code := .slice3B) hh0 (by omega)
 rw [hm1] at b1
 rw [hh1] at b2
 cases lo with
 | none =>
  have := hl0 rfl; subst this
  simp only [Option.map_none, Sem.run_bind, Sem.run_pure, Result.andThen_ok, hm, hh, if_true, b1, b2]
 | some x =>
  obtain ⟨k, n, hv, h0, hn⟩ := hl x rfl
  have hb := run_sb (P := P) (w := w) (k := k) (i := n) (y := h) (code := .slice3C) h0 (by omega)
  rw [hn] at hb
  simp only [Option.map_some, Sem.run_bind, Sem.run_pure, Result.andThen_ok, hv, hm, hh, if_true, b1, b2, Option.isSome_some, hb]
omit hC hf in
/-- Slicing a slice. -/
theorem run_slice_at {t e : TypeId} {i' : TypeInfo} {sz : Nat} (hu : P.underlying t = some (.slice e)) (hi : P.info? e = some i') (hs : i'.size = sz) {ad : Option Addr} {len cap : Nat} {lo hi' mx : Option Value} {l h m : Nat} {w : World}
  (hb : (Instr.sliceBounds true len cap lo hi' mx).run P w = .ok (l, h, m) w) :
  (Instr.sliceAt t (.slice ad len cap) lo hi' mx).run P w = .ok (.slice (if m = l then ad else ad.map (·.add (l * sz))) (h - l) (m - l)) w := by
 simp only [Instr.sliceAt, Sem.run_bind, run_und w hu, Result.andThen_ok, Instr.slice]
 rw [hb]
 simp only [Result.andThen_ok, run_sz w hi, hs, Sem.run_pure]
omit hC in
theorem intA_elim {x : Operand} {k : Int → Prop} (h : intA (ev fr x) k) : ∃ kk n, a.eval x = .int kk n ∧ k n := by
 unfold intA at h
 split at h
 ·rename_i kk n hxe
  have := hf.ev x
  rw [hxe] at this
  exact ⟨kk, n, this.int, h⟩
 ·exact h.elim
theorem snd_slice {t : TypeId} {x : Operand} {lo hi mx : Option Operand} (ho : o.op = .slice t x lo hi mx) (h : aop Γ fr (.slice t x lo hi mx) C.H next) : Snd P o a C next := by
 simp only [aop] at h
 have hx := hf.evT x
 split at h
 ·rename_i sh0 by0 k z0 hti
  obtain ⟨i, d, hin⟩ := Γ.info hti
  split at h
  ·-- a text
   rename_i s hxe
   rw [hxe] at hx
   obtain ⟨b, hb, rfl⟩ := hx.str
   have hbs : b.data.toList.length = b.size := by simp
   split at h
   ·have hd := hin.str rfl; subst hd
    have fin : ∀ {l h : Nat} {r : List UInt8}, (∀ x, lo = some x → ∃ k n, a.eval x = .int k n ∧ 0 ≤ n ∧ n.toNat = l) → (lo = none → l = 0) → (∀ x, hi = some x → ∃ k n, a.eval x = .int k n ∧ 0 ≤ n ∧ n.toNat = h) → (hi = none → h = b.size) →
      l ≤ h → h ≤ b.size → r = (b.data.toList.take h).drop l → next (.str r) C.H → Snd P o a C next := by
     intro l h r h1 h2 h3 h4 h5 h6 hr hn
     subst hr
     refine ⟨_, _, hn, Yield.same hC (v := .string (b.extract l h)) ?_ ?_⟩
     ·have hbd := bounds_snd (P := P) (a := a) (isS := false) h1 h2 h3 h4 h5 h6 C.w
      have hs : (Instr.sliceAt t (.string b) (lo.map a.eval) (hi.map a.eval) none).run P C.w = .ok (.string (b.extract l h)) C.w := by
       simp only [Instr.sliceAt, Sem.run_bind, run_und C.w hin.und, Result.andThen_ok, Instr.slice, Option.isSome_none, Bool.false_eq_true, if_false]
       rw [hbd]; rfl
      simp only [execOp, ho, hb, Option.map_none]
      rw [Sem.run_bind, hs]; rfl
     ·have := (RP.str (w := C.w) (G := C.G) (b.extract l h)).RT
      rw [ByteArray.data_extract] at this
      have e : (b.data.extract l h).toList = (b.data.toList.take h).drop l := by simp [Array.toList_extract, List.extract, List.drop_take]
      rw [e] at this
      exact this
    split at h
    ·split at h
     ·exact fin (l := 0) (h := b.size) (fun x hx => by cases hx) (fun _ => rfl) (fun x hx => by cases hx) (fun _ => rfl) (Nat.zero_le _) (Nat.le_refl _) (by rw [← hbs, List.take_length, List.drop_zero]) h
     ·obtain ⟨kk, n, hv, ⟨h0, h1⟩, h⟩ := intA_elim hf h
      exact fin (l := 0) (h := n.toNat) (fun x hx => by cases hx) (fun _ => rfl) (fun x hx => by cases hx; exact ⟨_, _, hv, h0, rfl⟩) (fun hh => by cases hh) (Nat.zero_le _) (by omega) (by simp) h
    ·split at h
     ·obtain ⟨kk, n, hv, ⟨h0, h1⟩, h⟩ := intA_elim hf h
      exact fin (l := n.toNat) (h := b.size) (fun x hx => by cases hx; exact ⟨_, _, hv, h0, rfl⟩) (fun hh => by cases hh) (fun x hx => by cases hx) (fun _ => rfl) (by omega) (Nat.le_refl _) (by rw [← hbs, List.take_length]) h
     ·obtain ⟨kk, n, hv, h⟩ := intA_elim hf h
      obtain ⟨kk', m, hv', ⟨h0, h1, h2⟩, h⟩ := intA_elim hf h
      exact fin (l := n.toNat) (h := m.toNat) (fun x hx => by cases hx; exact ⟨_, _, hv, h0, rfl⟩) (fun hh => by cases hh) (fun x hx => by cases hx; exact ⟨_, _, hv', by omega, rfl⟩) (fun hh => by cases hh) (by omega) (by omega) rfl h
   ·exact h.elim
  ·-- nil
   rename_i hxe
   rw [hxe] at hx
   have hv0 := hx.nils
   split at h
   ·rename_i e
    have hd := hin.slice rfl; subst hd
    split at h
    ·rename_i tiE hte
     obtain ⟨i', d', hi'⟩ := Γ.info hte
     have fin : (∀ x, lo = some x → ∃ k n, a.eval x = .int k n ∧ 0 ≤ n ∧ n.toNat = 0) → (∀ x, hi = some x → ∃ k n, a.eval x = .int k n ∧ 0 ≤ n ∧ n.toNat = 0) → next .nils C.H → Snd P o a C next := by
      intro h1 h2 hn
      refine ⟨_, _, hn, Yield.same hC (v := .slice none 0 0) ?_ (RP.nils (w := C.w) (G := C.G)).RT⟩
      simp only [execOp, ho, hv0, Option.map_none]
      rw [Sem.run_bind, run_slice_at hin.und hi'.info hi'.sz (bounds_snd (P := P) (a := a) (isS := true) h1 (fun _ => rfl) h2 (fun _ => rfl) (Nat.le_refl 0) (Nat.le_refl 0) C.w)]
      rfl
     split at h
     ·split at h
      ·exact fin (fun x hx => by cases hx) (fun x hx => by cases hx) h
      ·obtain ⟨kk, n, hv', h0, h⟩ := intA_elim hf h
       exact fin (fun x hx => by cases hx) (fun x hx => by cases hx; exact ⟨_, _, hv', by omega, by omega⟩) h
     ·split at h
      ·obtain ⟨kk, n, hv', h0, h⟩ := intA_elim hf h
       exact fin (fun x hx => by cases hx; exact ⟨_, _, hv', by omega, by omega⟩) (fun x hx => by cases hx) h
      ·obtain ⟨kk, n, hv', h⟩ := intA_elim hf h
       obtain ⟨kk', m, hv2, ⟨h0, h1⟩, h⟩ := intA_elim hf h
       exact fin (fun x hx => by cases hx; exact ⟨_, _, hv', by omega, by omega⟩) (fun x hx => by cases hx; exact ⟨_, _, hv2, by omega, by omega⟩) h
    ·exact h.elim
   ·rename_i e mx
    have hd := hin.slice rfl; subst hd
    split at h
    ·rename_i tiE hte
     obtain ⟨i', d', hi'⟩ := Γ.info hte
     have fin : ∀ {hi : Operand} {k1 k2 : IntKind} {n1 n2 : Int}, o.op = .slice t x lo (some hi) (some mx) → (∀ x, lo = some x → ∃ k n, a.eval x = .int k n ∧ 0 ≤ n ∧ n.toNat = 0) → a.eval hi = .int k1 n1 → n1 = 0 → a.eval mx = .int k2 n2 → n2 = 0 → next .nils C.H → Snd P o a C next := by
      intro hi k1 k2 n1 n2 ho h1 h2 e1 h3 e2 hn
      subst e1 e2
      refine ⟨_, _, hn, Yield.same hC (v := .slice none 0 0) ?_ (RP.nils (w := C.w) (G := C.G)).RT⟩
      simp only [execOp, ho, hv0, Option.map_some]
      rw [Sem.run_bind, run_slice_at hin.und hi'.info hi'.sz (bounds3_snd (P := P) (a := a) h1 (fun _ => rfl) h2 (Int.le_refl 0) rfl h3 (Int.le_refl 0) rfl (Nat.le_refl 0) (Nat.le_refl 0) (Nat.le_refl 0) C.w)]
      rfl
     split at h
     ·split at h
      ·exact h.elim
      ·obtain ⟨kk, n, hv1, h⟩ := intA_elim hf h
       obtain ⟨kk', m, hv2, ⟨h0, h1⟩, h⟩ := intA_elim hf h
       exact fin ho (fun x hx => by cases hx) hv1 h0 hv2 h1 h
     ·split at h
      ·exact h.elim
      ·obtain ⟨kk, n, hv', h⟩ := intA_elim hf h
       obtain ⟨kk1, n1, hv1, h⟩ := intA_elim hf h
       obtain ⟨kk', m, hv2, ⟨h00, h0, h1⟩, h⟩ := intA_elim hf h
       exact fin ho (fun x hx => by cases hx; exact ⟨_, _, hv', by omega, by omega⟩) hv1 h0 hv2 h1 h
    ·exact h.elim
   ·exact h.elim
  ·-- a list
   rename_i sh s hxe
   rw [hxe] at hx
   split at h
   ·rename_i e
    have hd := hin.slice rfl; subst hd
    split at h
    ·rename_i shE byE kE zE hte
     obtain ⟨i', d', hi'⟩ := Γ.info hte
     split at h
     ·rename_i hbq
      have := Sh.beq_eq hbq; subst this
      have hx : RP C.w C.G (a.eval x) (.list shE s) := hx
      -- the value of a slicing of a list
      have val : ∀ {l h m cap : Nat} {ad : Option Addr}, a.eval x = .slice ad s.length cap → l ≤ h → h ≤ s.length → h ≤ m → RP C.w C.G (.slice (if m = l then ad else ad.map (·.add (l * shE.size))) (h - l) (m - l)) (.list shE ((s.take h).drop l)) := by
       intro l h m cap ad hv h1 h2 h3
       rw [hv] at hx
       by_cases h0 : h = l
       ·subst h0
        have : (s.take h).drop h = [] := by simp
        rw [this, Nat.sub_self]
        exact .list0 _ _ _
       ·generalize hvv : Value.slice ad s.length cap = vv at hx
        cases hx with
        | list0 => simp at h2; omega
        | list _ b o' c _ vs hc hb' hr hs hcell =>
         cases hvv
         have hlen : ((s.take h).drop l).length = h - l := by simp; omega
         have hne : ¬ (m = l) := by omega
         simp only [if_neg hne, Option.map_some, addr_add]
         have := RP.list (w := C.w) (G := C.G) shE b (o' + l * shE.size) (m - l) ((s.take h).drop l) (fun q => vs (l + q)) (by omega) hb'
          (fun q hq => by
           simp only [List.getElem_drop, List.getElem_take]
           exact hr (l + q) (by omega)) (fun q hq => hs _ (by omega))
          (fun q j hq hj => by
           rw [← hcell (l + q) j (by omega) hj]
           congr 2
           rw [Nat.add_mul]; omega)
         rw [hlen] at this
         exact this
      obtain ⟨ad, cap, hv, hlc⟩ : ∃ ad cap, a.eval x = .slice ad s.length cap ∧ s.length ≤ cap := by
       generalize a.eval x = u at hx
       cases hx with
       | list0 => exact ⟨_, _, rfl, Nat.zero_le _⟩
       | list _ _ _ _ _ _ hc => exact ⟨_, _, rfl, hc⟩
      have fin : ∀ {l h : Nat} {r : List AV}, (∀ x, lo = some x → ∃ k n, a.eval x = .int k n ∧ 0 ≤ n ∧ n.toNat = l) → (lo = none → l = 0) → (∀ x, hi = some x → ∃ k n, a.eval x = .int k n ∧ 0 ≤ n ∧ n.toNat = h) → (hi = none → h = s.length) →
        mx = none → l ≤ h → h ≤ s.length → r = (s.take h).drop l → next (.list shE r) C.H → Snd P o a C next := by
       intro l h r h1 h2 h3 h4 hmx h5 h6 hr hn
       subst hr hmx
       refine ⟨_, _, hn, Yield.same hC (v := _) ?_ (val hv h5 h6 (Nat.le_trans h6 hlc)).RT⟩
       simp only [execOp, ho, hv, Option.map_none]
       rw [Sem.run_bind, run_slice_at hin.und hi'.info hi'.sz (bounds_snd (P := P) (a := a) (isS := true) h1 h2 h3 h4 h5 (Nat.le_trans h6 hlc) C.w)]
       rfl
      split at h
      ·split at h
       ·split at h
        ·exact fin (l := 0) (h := s.length) (fun x hx => by cases hx) (fun _ => rfl) (fun x hx => by cases hx) (fun _ => rfl) rfl (Nat.zero_le _) (Nat.le_refl _) (by simp) h
        ·obtain ⟨kk, n, hv', ⟨h0, h1⟩, h⟩ := intA_elim hf h
         exact fin (l := 0) (h := n.toNat) (fun x hx => by cases hx) (fun _ => rfl) (fun x hx => by cases hx; exact ⟨_, _, hv', h0, rfl⟩) (fun hh => by cases hh) rfl (Nat.zero_le _) h1 (by simp) h
       ·split at h
        ·obtain ⟨kk, n, hv', ⟨h0, h1⟩, h⟩ := intA_elim hf h
         exact fin (l := n.toNat) (h := s.length) (fun x hx => by cases hx; exact ⟨_, _, hv', h0, rfl⟩) (fun hh => by cases hh) (fun x hx => by cases hx) (fun _ => rfl) rfl h1 (Nat.le_refl _) (by simp) h
        ·obtain ⟨kk, n, hv1, h⟩ := intA_elim hf h
         obtain ⟨kk', m, hv2, ⟨h0, h1, h2⟩, h⟩ := intA_elim hf h
         exact fin (l := n.toNat) (h := m.toNat) (fun x hx => by cases hx; exact ⟨_, _, hv1, h0, rfl⟩) (fun hh => by cases hh) (fun x hx => by cases hx; exact ⟨_, _, hv2, by omega, rfl⟩) (fun hh => by cases hh) rfl (by omega) h2 rfl h
      ·split at h
       ·split at h
        ·exact h.elim
        ·obtain ⟨kk, n, hv1, h⟩ := intA_elim hf h
         obtain ⟨kk', m, hv2, ⟨h0, h1, h2⟩, h⟩ := intA_elim hf h
         refine ⟨_, _, h, Yield.same hC (v := _) ?_ ((by simpa using val hv (l := 0) (h := n.toNat) (m := m.toNat) (Nat.zero_le _) (by omega) (by omega) : RP C.w C.G _ (.list shE (s.take n.toNat)))).RT⟩
         simp only [execOp, ho, hv, Option.map_some]
         rw [Sem.run_bind, run_slice_at hin.und hi'.info hi'.sz (bounds3_snd (P := P) (a := a) (lo := none) (l := 0) (fun x hx => by cases hx) (fun _ => rfl) hv1 h0 rfl hv2 (by omega) rfl (Nat.zero_le _) (by omega) (by omega) C.w)]
         simp
       ·split at h
        ·exact h.elim
        ·obtain ⟨k0, n0, hv0, h⟩ := intA_elim hf h
         obtain ⟨kk, n, hv1, h⟩ := intA_elim hf h
         obtain ⟨kk', m, hv2, ⟨h0, h01, h1, h2⟩, h⟩ := intA_elim hf h
         refine ⟨_, _, h, Yield.same hC (v := _) ?_ (val hv (l := n0.toNat) (h := n.toNat) (m := m.toNat) (by omega) (by omega) (by omega)).RT⟩
         have hb3 := bounds3_snd (P := P) (a := a) (len := s.length) (cap := cap) (l := n0.toNat) (lo := some _) (fun x hx => by cases hx; exact ⟨_, _, hv0, h0, rfl⟩) (fun hh => by cases hh) hv1 (by omega) rfl hv2 (by omega) rfl (by omega) (by omega) (by omega) C.w
         simp only [execOp, ho, hv, Option.map_some] at hb3 ⊢
         rw [Sem.run_bind, run_slice_at hin.und hi'.info hi'.sz hb3]
         rfl
     ·exact h.elim
    ·exact h.elim
   ·exact h.elim
  ·-- an owned row
   rename_i id off len hxe
   rw [hxe] at hx
   split at h
   ·rename_i e
    have hd := hin.slice rfl; subst hd
    split at h
    ·rename_i shE byE kE zE hte
     obtain ⟨i', d', hi'⟩ := Γ.info hte
     split at h
     ·rename_i kk sh es hid
      split at h
      ·exact h.elim
      ·rename_i hkk
       split at h
       ·rename_i hbq
        have := Sh.beq_eq hbq; subst this
        obtain ⟨hone, hidl, hx, hxb, _⟩ := hx
        obtain ⟨hvn, hvl⟩ := hx kk _ es hid
        have hbd0 := hxb kk _ es hid
        obtain ⟨ad, cap, hv, hlc, hec⟩ : ∃ ad cap, a.eval x = .slice ad len cap ∧ len ≤ cap ∧ es.length ≤ off + cap := by
         by_cases hl : (Blk.row kk shE es).live
         ·obtain ⟨cap, hv, hcap, hes, _⟩ := hvl hl; exact ⟨_, _, hv, hcap, hes⟩
         ·obtain ⟨ad, hv, h0⟩ := hvn hl
          obtain ⟨rfl, rfl⟩ := Blk.not_live_row hl
          subst h0; exact ⟨_, _, hv, Nat.le_refl _, by simp⟩
        have go : ∀ {l q : Nat} {r : AV}, (∀ x, lo = some x → ∃ k n, a.eval x = .int k n ∧ 0 ≤ n ∧ n.toNat = l) → (lo = none → l = 0) → (∀ x, hi = some x → ∃ k n, a.eval x = .int k n ∧ 0 ≤ n ∧ n.toNat = q) → (hi = none → q = len) →
          mx = none → l ≤ q → q ≤ cap → RT C (.slice (if cap = l then ad else ad.map (·.add (l * shE.size))) (q - l) (cap - l)) r → next r C.H → Snd P o a C next := by
         intro l q r h1 h2 h3 h4 hmx h5 h6 hr hn
         subst hmx
         refine ⟨_, _, hn, Yield.same hC (v := _) ?_ hr⟩
         simp only [execOp, ho, hv, Option.map_none]
         rw [Sem.run_bind, run_slice_at hin.und hi'.info hi'.sz (bounds_snd (P := P) (a := a) (isS := true) h1 h2 h3 h4 h5 h6 C.w)]
         rfl
        have own : ∀ {l q : Nat}, l ≤ q → off + q ≤ es.length → (l = 0 ∨ off + l < es.length) → RT C (.slice (if cap = l then ad else ad.map (·.add (l * shE.size))) (q - l) (cap - l)) (.own id (off + l) (q - l)) := by
         intro l q h1 h2 h3
         refine ⟨rfl, hidl, fun k2 s2 es2 he => ?_, fun k2 s2 es2 he => ?_, fun s2 es2 he => ?_⟩
         rotate_left
         ·rw [hid] at he; cases he; omega
         ·rw [hid] at he; cases he
         rw [hid] at he; cases he
         refine ⟨fun hn => ?_, fun hl => ?_⟩
         ·obtain ⟨ad', hv', h0⟩ := hvn hn
          obtain ⟨rfl, rfl⟩ := Blk.not_live_row hn
          rw [hv] at hv'; cases hv'
          simp only [List.length_nil] at h2 h3
          have : l = 0 := by omega
          have : q = 0 := by omega
          subst l q
          exact ⟨_, by simp; rfl, rfl⟩
         ·obtain ⟨cap', hv', hcap, hes, c, T, fz, hc, hcs⟩ := hvl hl
          rw [hv] at hv'; cases hv'
          refine ⟨cap - l, ?_, by omega, by omega, c, T, fz, hc, ?_⟩
          ·rcases h3 with h3 | h3
           ·subst h3; simp [addr_add]
           ·rw [if_neg (by omega)]; simp [addr_add, Nat.add_mul]
          ·have : off + l + (cap - l) = off + cap := by omega
           rw [this]; exact hcs
        split at h
        ·split at h
         ·split at h
          ·have := own (l := 0) (q := len) (Nat.zero_le _) hbd0 (.inl rfl)
           exact go (l := 0) (q := len) (fun x hx => by cases hx) (fun _ => rfl) (fun x hx => by cases hx) (fun _ => rfl) rfl (Nat.zero_le _) hlc this h
          ·obtain ⟨k1, n, hv', ⟨h0, h1⟩, h⟩ := intA_elim hf h
           have := own (l := 0) (q := n.toNat) (Nat.zero_le _) h1 (.inl rfl)
           exact go (l := 0) (q := n.toNat) (fun x hx => by cases hx) (fun _ => rfl) (fun x hx => by cases hx; exact ⟨_, _, hv', h0, rfl⟩) (fun hh => by cases hh) rfl (Nat.zero_le _) (by omega) this h
         ·split at h
          ·obtain ⟨k1, n, hv', h⟩ := intA_elim hf h
           cases h with
           | mid hh hn =>
            have := own (l := n.toNat) (q := len) (by omega) hbd0 (.inr (by omega))
            exact go (l := n.toNat) (q := len) (fun x hx => by cases hx; exact ⟨_, _, hv', hh.1, rfl⟩) (fun hh => by cases hh) (fun x hx => by cases hx) (fun _ => rfl) rfl (by omega) hlc this hn
           | fin hh hn =>
            exact go (l := n.toNat) (q := len) (r := .list shE []) (fun x hx => by cases hx; exact ⟨_, _, hv', by omega, rfl⟩) (fun hh => by cases hh) (fun x hx => by cases hx) (fun _ => rfl) rfl (by omega) hlc (by
             have : len - n.toNat = 0 := by omega
             rw [this]
             exact (RP.list0 (w := C.w) (G := C.G) shE _ _).RT) hn
          ·obtain ⟨k1, n, hv1, h⟩ := intA_elim hf h
           obtain ⟨k2, m, hv2, ⟨h0, h1, h2⟩, h⟩ := intA_elim hf h
           cases h with
           | mid hh hn =>
            have := own (l := n.toNat) (q := m.toNat) (by omega) h2 (.inr (by omega))
            exact go (l := n.toNat) (q := m.toNat) (fun x hx => by cases hx; exact ⟨_, _, hv1, h0, rfl⟩) (fun hh => by cases hh) (fun x hx => by cases hx; exact ⟨_, _, hv2, by omega, rfl⟩) (fun hh => by cases hh) rfl (by omega) (by omega) this hn
           | fin hh hn =>
            exact go (l := n.toNat) (q := m.toNat) (r := .list shE []) (fun x hx => by cases hx; exact ⟨_, _, hv1, h0, rfl⟩) (fun hh => by cases hh) (fun x hx => by cases hx; exact ⟨_, _, hv2, by omega, rfl⟩) (fun hh => by cases hh) rfl (by omega) (by omega) (by
             have : m.toNat - n.toNat = 0 := by omega
             rw [this]
             exact (RP.list0 (w := C.w) (G := C.G) shE _ _).RT) hn
        ·split at h
         ·split at h
          ·exact h.elim
          ·obtain ⟨k1, n, hv1, h⟩ := intA_elim hf h
           obtain ⟨k2, m, hv2, ⟨h0, h1, h2⟩, h⟩ := intA_elim hf h
           have hrun : (execOp a.eval o).run P C.w = .ok (.value (.slice ad n.toNat m.toNat)) C.w := by
            simp only [execOp, ho, hv, Option.map_some]
            rw [Sem.run_bind, run_slice_at hin.und hi'.info hi'.sz (bounds3_snd (P := P) (a := a) (lo := none) (l := 0) (fun x hx => by cases hx) (fun _ => rfl) hv1 h0 rfl hv2 (by omega) rfl (Nat.zero_le _) (by omega) (by omega) C.w)]
            cases ad <;> simp [addr_add, Addr.add]
           cases h with
           | lst h =>
            have hE1 := ro_ext hC hid hkk
            have hC1 := ro_hrep hC hid hkk
            have hr : RP ({ C with H := C.H.set id (.ro shE es) } : Ctx).w ({ C with H := C.H.set id (.ro shE es) } : Ctx).G (.slice ad n.toNat m.toNat) (.list shE ((es.drop off).take n.toNat)) := by
             by_cases hl : (Blk.row kk shE es).live
             ·obtain ⟨cap', hv', hcap, hes, c, T, fz, hc, hcs⟩ := hvl hl
              rw [hv] at hv'; cases hv'
              exact (row_ro hC (fun b hb => (hE1.G hb).1) hid hkk hl (ro_G hC hid hl)).list (by omega) (by omega)
             ·obtain ⟨rfl, rfl⟩ := Blk.not_live_row hl
              simp only [List.length_nil] at h2
              have hn0 : n.toNat = 0 := by omega
              rw [hn0, List.take_zero]
              exact .list0 _ _ _
            exact ⟨_, _, h, Yield.of (C' := { C with H := C.H.set id (.ro shE es) }) (v := .slice ad n.toNat m.toNat) hrun hE1 hC1 (RP.RT (C := { C with H := C.H.set id (.ro shE es) }) hr)⟩
           | own h =>
            obtain ⟨⟨h3, h4⟩, hq⟩ := h
            subst h3 h4
            have hcut := cut_row hC hid hkk (n := m.toNat) (by omega) (v := .slice ad m.toNat m.toNat) (fun hl => by
             obtain ⟨cap', hv', hcap, hes, c, T, fz, hc, hcs⟩ := hvl hl
             rw [hv] at hv'; cases hv'
             simp) (by
              by_cases hl : (Blk.row kk shE es).live
              ·obtain ⟨cap', hv', _⟩ := hvl hl
               exact ⟨_, rfl⟩
              ·exact ⟨_, rfl⟩)
            obtain ⟨C', hw, hH, hE, hC', hr⟩ := hcut
            refine ⟨_, _, hq, ?_⟩
            rw [← hH]
            exact Yield.of (C' := C') (v := .slice ad m.toNat m.toNat) (by rw [hw]; exact hrun) hE hC' hr
         ·split at h
          ·exact h.elim
          ·obtain ⟨k0, n0, hv0, h⟩ := intA_elim hf h
           obtain ⟨k1, n, hv1, h⟩ := intA_elim hf h
           obtain ⟨k2, m, hv2, ⟨h0, h01, h1, h2⟩, h⟩ := intA_elim hf h
           refine ⟨_, _, h, Yield.same hC (v := .slice (if m.toNat = n0.toNat then ad else ad.map (·.add (n0.toNat * shE.size))) (n.toNat - n0.toNat) (m.toNat - n0.toNat)) ?_ trivial⟩
           have hb3 := bounds3_snd (P := P) (a := a) (len := len) (cap := cap) (l := n0.toNat) (lo := some _) (fun x hx => by cases hx; exact ⟨_, _, hv0, h0, rfl⟩) (fun hh => by cases hh) hv1 (by omega) rfl hv2 (by omega) rfl (by omega) (by omega) (by omega) C.w
           simp only [execOp, ho, hv, Option.map_some] at hb3 ⊢
           rw [Sem.run_bind, run_slice_at hin.und hi'.info hi'.sz hb3]
           rfl
       ·exact h.elim
     ·exact h.elim
    ·exact h.elim
   ·exact h.elim
  ·exact h.elim
 ·exact h.elim
end
end Go.Bv
namespace Go.Bv
open Go
theorem cv1_det {n0 : Nat} {S : List Nat} {H : List Blk} {a : AV} {k : AV → Prop} (h : cv1 n0 S H a k) : ∃ a', cv1 n0 S H a (· = a') ∧ k a' := by
 unfold cv1 at h
 split at h
 ·rename_i id off len
  split at h
  ·rename_i j hj; exact ⟨_, by simp [cv1, hj], h⟩
  ·rename_i hj
   split at h
   ·rename_i kk sh es hid
    split at h
    ·exact h.elim
    ·rename_i hk
     obtain ⟨l, h1, h2, h3⟩ := h
     refine ⟨_, ?_, h3⟩
     simp only [cv1, hj, hid]
     exact ⟨l, h1, h2, rfl⟩
   ·rename_i sh es hid
    refine ⟨_, ?_, h⟩
    simp only [cv1, hj, hid]
   ·rename_i hid hid2
    refine ⟨_, ?_, h⟩
    simp only [cv1, hj]
    try (split <;> first | rfl | (rename_i hh; exact absurd hh (hid _ _ _)) | (rename_i hh; exact absurd hh (hid2 _ _)))
 ·rename_i id i o
  split at h
  ·rename_i j hj; exact ⟨_, by simp [cv1, hj], h⟩
  ·rename_i hj; exact ⟨_, by simp [cv1, hj], h⟩
 ·rename_i id
  split at h
  ·rename_i j hj; exact ⟨_, by simp [cv1, hj], h⟩
  ·rename_i hj; exact ⟨_, by simp [cv1, hj], h⟩
 ·exact h.elim
 ·exact h.elim
 ·exact h.elim
 ·rename_i h1 h2 h3 h4 h5 h6
  rw [force_eq] at h
  refine ⟨a, ?_, h⟩
  cases a <;> first | rfl | exact absurd rfl (h1 _ _ _) | exact absurd rfl (h2 _ _ _) | exact absurd rfl (h3 _) | exact absurd rfl (h4 _ _) | exact absurd rfl (h5 _) | exact absurd rfl (h6 _)
theorem cvs1_det {n0 : Nat} {S : List Nat} {H : List Blk} : ∀ {l : List AV} {k : List AV → Prop}, cvs1 n0 S H l k → ∃ l', l'.length = l.length ∧ (∀ (i : Nat) (h : i < l.length) (h' : i < l'.length), cv1 n0 S H l[i] (· = l'[i])) ∧ k l'
 | [], k, h => ⟨[], rfl, fun i h => by simp at h, h⟩
 | a :: r, k, h => by
  rw [cvs1_cons] at h
  obtain ⟨a', ha, h⟩ := cv1_det h
  obtain ⟨r', hl, hr, h⟩ := cvs1_det h
  refine ⟨a' :: r', by simp [hl], fun i hi hi' => ?_, h⟩
  cases i with
  | zero => exact ha
  | succ i => exact hr i (by simpa using hi) (by simpa using hi')
/-- What a conversion of a value is. -/
def CvA (n0 : Nat) (S : List Nat) (H : List Blk) (a a' : AV) : Prop :=
 (∃ cs cs', a = .agg cs ∧ a' = .agg cs' ∧ cs'.length = cs.length ∧ ∀ (i : Nat) (h : i < cs.length) (h' : i < cs'.length), cv1 n0 S H cs[i] (· = cs'[i])) ∨
 (∃ f cs cs', a = .fn f cs ∧ a' = .fn f cs' ∧ cs'.length = cs.length ∧ ∀ (i : Nat) (h : i < cs.length) (h' : i < cs'.length), cv1 n0 S H cs[i] (· = cs'[i])) ∨
 ((∀ cs, a ≠ .agg cs) ∧ (∀ f cs, a ≠ .fn f cs) ∧ (∀ vs, a ≠ .tup vs) ∧ cv1 n0 S H a (· = a'))
theorem cvA_det {n0 : Nat} {S : List Nat} {H : List Blk} {a : AV} {k : AV → Prop} (h : cvA n0 S H a k) : ∃ a', CvA n0 S H a a' ∧ k a' := by
 unfold cvA at h
 split at h
 ·obtain ⟨l', hl, hr, h⟩ := cvs1_det h
  exact ⟨_, .inl ⟨_, _, rfl, rfl, hl, hr⟩, h⟩
 ·obtain ⟨l', hl, hr, h⟩ := cvs1_det h
  exact ⟨_, .inr (.inl ⟨_, _, _, rfl, rfl, hl, hr⟩), h⟩
 ·exact h.elim
 ·rename_i h1 h2 h3
  obtain ⟨a', ha, h⟩ := cv1_det h
  exact ⟨a', .inr (.inr ⟨h1, h2, h3, ha⟩), h⟩
theorem cvsA_det {n0 : Nat} {S : List Nat} {H : List Blk} : ∀ {l : List AV} {k : List AV → Prop}, cvsA n0 S H l k → ∃ l', l'.length = l.length ∧ (∀ (i : Nat) (h : i < l.length) (h' : i < l'.length), CvA n0 S H l[i] l'[i]) ∧ k l'
 | [], k, h => ⟨[], rfl, fun i h => by simp at h, h⟩
 | a :: r, k, h => by
  rw [cvsA_cons] at h
  obtain ⟨a', ha, h⟩ := cvA_det h
  obtain ⟨r', hl, hr, h⟩ := cvsA_det h
  refine ⟨a' :: r', by simp [hl], fun i hi hi' => ?_, h⟩
  cases i with
  | zero => exact ha
  | succ i => exact hr i (by simpa using hi) (by simpa using hi')
def CvBlk (n0 : Nat) (S : List Nat) (H : List Blk) (b b' : Blk) : Prop :=
 (∃ sh x x', b = .row .box sh [x] ∧ b' = .row .box sh [x'] ∧ CvA n0 S H x x') ∨ (b = b' ∧ ∀ sh es, b ≠ .row .box sh es)
theorem cvBlk_det {n0 : Nat} {S : List Nat} {H : List Blk} {b : Blk} {k : Blk → Prop} (h : cvBlk n0 S H b k) : ∃ b', CvBlk n0 S H b b' ∧ k b' := by
 unfold cvBlk at h
 split at h
 ·obtain ⟨x', hx, h⟩ := cvA_det h
  exact ⟨_, .inl ⟨_, _, _, rfl, rfl, hx⟩, h⟩
 ·exact h.elim
 ·rename_i h1 h2
  exact ⟨b, .inr ⟨rfl, fun sh es => h2 sh es⟩, h⟩
theorem cvH_det {n0 : Nat} {S : List Nat} {H : List Blk} : ∀ {l : List Nat} {k : List Blk → Prop}, cvH n0 S H l k →
  ∃ H', H'.length = l.length ∧ (∀ (i : Nat) (h : i < l.length) (h' : i < H'.length), ∃ b, H[l[i]]? = some b ∧ CvBlk n0 S H b H'[i]) ∧ k H'
 | [], k, h => ⟨[], rfl, fun i h => by simp at h, h⟩
 | id :: r, k, h => by
  simp only [cvH_cons] at h
  split at h
  ·rename_i b hb
   obtain ⟨b', hb', h⟩ := cvBlk_det h
   obtain ⟨r', hl, hr, h⟩ := cvH_det h
   refine ⟨b' :: r', by simp [hl], fun i hi hi' => ?_, h⟩
   cases i with
   | zero => exact ⟨b, hb, hb'⟩
   | succ i => exact hr i (by simpa using hi) (by simpa using hi')
  ·exact h.elim
theorem idxIn_some : ∀ (l : List Nat) (id j q : Nat), idxIn l id j = some q → j ≤ q ∧ q - j < l.length ∧ l[q - j]? = some id
 | [], _, _, _, h => by simp [idxIn] at h
 | x :: r, id, j, q, h => by
  simp only [idxIn] at h
  split at h
  ·rename_i hb
   have := Nat.eq_of_beq_eq_true hb
   simp only [Option.some.injEq] at h
   subst h this
   simp
  ·obtain ⟨h1, h2, h3⟩ := idxIn_some r id (j + 1) q h
   have e : q - j = (q - (j + 1)) + 1 := by omega
   refine ⟨by omega, by simp; omega, ?_⟩
   rw [e, List.getElem?_cons_succ]
   exact h3
theorem idxIn_none : ∀ (l : List Nat) (id j : Nat), idxIn l id j = none → id ∉ l
 | [], _, _, _ => by simp
 | x :: r, id, j, h => by
  simp only [idxIn] at h
  split at h
  ·simp at h
  ·rename_i hb
   have := idxIn_none r id (j + 1) h
   simp only [List.mem_cons, not_or]
   refine ⟨?_, this⟩
   rintro rfl
   simp at hb
theorem nodupB_spec : ∀ (l : List Nat), nodupB l = true → l.Nodup
 | [], _ => List.nodup_nil
 | x :: r, h => by
  simp only [nodupB] at h
  split at h
  ·rename_i hn
   exact List.nodup_cons.2 ⟨idxIn_none r x 0 hn, nodupB_spec r h⟩
  ·simp at h
theorem allGe_spec {n0 : Nat} : ∀ (l : List Nat), allGe n0 l = true → ∀ x ∈ l, n0 ≤ x
 | [], _, x, hx => by simp at hx
 | y :: r, h, x, hx => by
  simp only [allGe, Bool.and_eq_true] at h
  rcases List.mem_cons.1 hx with rfl | hx
  ·exact Nat.le_of_ble_eq_true h.1
  ·exact allGe_spec r h.2 x hx
theorem pos_some {n0 : Nat} {S : List Nat} {id j : Nat} (h : pos n0 S id = some j) : (List.range n0 ++ S)[j]? = some id := by
 unfold pos at h
 split at h
 ·rename_i hb
  simp only [Option.some.injEq] at h; subst h
  have := Nat.blt_eq.mp hb
  rw [List.getElem?_append_left (by simpa using this), List.getElem?_range this]
 ·obtain ⟨h1, h2, h3⟩ := idxIn_some S id n0 j h
  rw [List.getElem?_append_right (by simpa using h1)]
  simpa using h3
theorem pos_none {n0 : Nat} {S : List Nat} {id : Nat} (h : pos n0 S id = none) : id ∉ List.range n0 ++ S := by
 unfold pos at h
 split at h
 ·simp at h
 ·rename_i hb
  have := idxIn_none S id n0 h
  simp only [List.mem_append, List.mem_range, not_or]
  refine ⟨?_, this⟩
  intro hlt
  have := Nat.blt_eq.mpr hlt
  rw [this] at hb; simp at hb
theorem mapT_nodup {n0 : Nat} {S : List Nat} (hS : (nodupB S && allGe n0 S) = true) : (List.range n0 ++ S).Nodup := by
 simp only [Bool.and_eq_true] at hS
 refine List.nodup_append.2 ⟨List.nodup_range, nodupB_spec S hS.1, ?_⟩
 intro a ha b hb hab
 subst hab
 have := allGe_spec S hS.2 a hb
 simp at ha
 omega
/-- The state laid anew. -/
structure Anew (n0 : Nat) (S : List Nat) (C C' : Ctx) : Prop where
 w : C'.w = C.w
 F : C'.F = C.F
 pos : ∀ id j, Bv.pos n0 S id = some j → j < C'.H.length ∧ C'.β j = C.β id ∧
  (∀ k sh es, C'.H[j]? = some (.row k sh es) → ∃ es0, C.H[id]? = some (.row k sh es0) ∧ es0.length = es.length) ∧ (∀ es, C'.H[j]? = some (.map es) → C.H[id]? = some (.map es)) ∧ ∀ sh es, C'.H[j]? = some (.ro sh es) → C.H[id]? = some (.ro sh es)
 G : ∀ b, C.G b → C'.G b
 freed : ∀ id k, C.H[id]? = some k → k.live → Bv.pos n0 S id = none → C'.G (C.β id)
section
variable {n0 : Nat} {S : List Nat} {C C' : Ctx}
theorem Anew.RP (h : Anew n0 S C C') {v : Value} {a : AV} (r : RP C.w C.G v a) : RP C'.w C'.G v a := r.mono fun b hb => ⟨h.G b hb, by rw [h.w]⟩
theorem Anew.cv1 (h : Anew n0 S C C') (hC : HRep C) {v : Value} {a a' : AV} (hc : cv1 n0 S C.H a (· = a')) (hr : RL C v a) : RL C' v a' := by
 unfold Bv.cv1 at hc
 split at hc
 ·rename_i id off len
  obtain ⟨hone, hid, hv, hvb, hvr⟩ := hr
  split at hc
  ·rename_i j hj
   subst hc
   obtain ⟨h1, h2, h3, _, h5⟩ := h.pos id j hj
   refine ⟨hone, h1, fun k sh es he => ?_, fun k sh es he => ?_, fun sh es he => ?_⟩
   rotate_left
   ·obtain ⟨es0, he0, hlen⟩ := h3 k sh es he
    have := hvb k sh es0 he0
    omega
   ·obtain ⟨g1, g2⟩ := hvr sh es (h5 sh es he)
    exact ⟨g1, h.RP g2⟩
   obtain ⟨es0, he0, hlen⟩ := h3 k sh es he
   obtain ⟨hn, hl⟩ := hv k sh es0 he0
   refine ⟨fun hd => hn fun hl => hd (Blk.live_row hlen hl), fun hlv => ?_⟩
   obtain ⟨cap, e1, e2, e3, c, T, fz, e4, e5⟩ := hl (Blk.live_row hlen.symm hlv)
   rw [h2, h.w]
   exact ⟨cap, e1, e2, by omega, c, T, fz, e4, e5⟩
  ·rename_i hj
   split at hc
   ·rename_i kk sh es he
    split at hc
    ·exact hc.elim
    ·rename_i hkk
     obtain ⟨l, h1, rfl, rfl⟩ := hc
     obtain ⟨hn, hl⟩ := hv kk sh es he
     have hlen : ((es.drop off).take len).length = len := by simp; omega
     by_cases hlv : (Blk.row kk sh es).live
     ·obtain ⟨cap, rfl, e2, e3, c, T, fz, e4, e5⟩ := hl hlv
      obtain ⟨c', T', fz', hc', _, _, _, hel⟩ := hC.row id kk sh es he hlv
      rw [e4] at hc'; cases hc'
      have := RP.list (w := C'.w) (G := C'.G) sh (C.β id) (off * sh.size) cap ((es.drop off).take len) (fun q => if h : off + q < es.length then (hel (off + q) h).choose else undef) (by omega) (h.freed id _ he hlv hj)
       (fun q hq => by
        have hq' : off + q < es.length := by omega
        simp only [List.getElem_take, List.getElem_drop]
        rw [dif_pos hq']
        exact h.RP ((hel (off + q) hq').choose_spec.2.1 fun hk => hkk hk))
       (fun q hq => by rw [dif_pos (show off + q < es.length by omega)]; exact (hel (off + q) (by omega)).choose_spec.2.2.1)
       (fun q j hq hj => by
        rw [dif_pos (show off + q < es.length by omega), ← (hel (off + q) (by omega)).choose_spec.2.2.2 j hj]
        simp only [World.cell?, h.w, e4, Option.isSome_none, Bool.false_eq_true, if_false]
        congr 1
        rw [Nat.add_mul])
      rw [hlen] at this
      exact this
     ·obtain ⟨ad, rfl, h0⟩ := hn hlv
      have : (es.drop off).take len = [] := by rw [h0]; simp
      rw [this]
      exact .list0 _ _ _
   ·rename_i sh es he
    subst hc
    exact h.RP (hvr sh es he).2
   ·subst hc; trivial
 ·rename_i id i o
  obtain ⟨hone, hid, hv⟩ := hr
  split at hc
  ·rename_i j hj
   subst hc
   obtain ⟨h1, h2, h3, _⟩ := h.pos id j hj
   refine ⟨hone, h1, fun k sh es he => ?_⟩
   obtain ⟨es0, he0, hlen⟩ := h3 k sh es he
   rw [h2]
   exact hv k sh es0 he0
  ·subst hc; trivial
 ·rename_i id
  obtain ⟨hone, hid, hv⟩ := hr
  split at hc
  ·rename_i j hj
   subst hc
   obtain ⟨h1, h2, _, h4, _⟩ := h.pos id j hj
   refine ⟨hone, h1, fun es he => ?_⟩
   rw [h2]
   exact hv es (h4 es he)
  ·subst hc; trivial
 ·exact hc.elim
 ·exact hc.elim
 ·exact hc.elim
 ·rename_i h1 h2 h3 h4 h5 h6
  rw [force_eq] at hc; subst hc
  cases a <;> first | exact absurd rfl (h1 _ _ _) | exact absurd rfl (h2 _ _ _) | exact absurd rfl (h3 _) | exact absurd rfl (h4 _ _) | exact absurd rfl (h5 _) | exact absurd rfl (h6 _) | trivial | exact h.RP hr
theorem cv1_leaf {H : List Blk} {a a' : AV} (hc : Bv.cv1 n0 S H a (· = a')) : (∀ cs, a' ≠ .agg cs) ∧ (∀ vs, a' ≠ .tup vs) ∧ ∀ f cs, a' ≠ .fn f cs := by
 unfold Bv.cv1 at hc
 split at hc
 ·split at hc
  ·subst hc; simp
  ·split at hc
   ·split at hc
    ·exact hc.elim
    ·obtain ⟨l, _, _, rfl⟩ := hc; simp
   ·subst hc; simp
   ·subst hc; simp
 ·split at hc <;> subst hc <;> simp
 ·split at hc <;> subst hc <;> simp
 ·exact hc.elim
 ·exact hc.elim
 ·exact hc.elim
 ·rename_i h1 h2 h3 h4 h5 h6
  rw [force_eq] at hc; subst hc
  exact ⟨fun cs e => h5 cs e, fun cs e => h6 cs e, fun f cs e => h4 f cs e⟩
theorem RL.R1' {C : Ctx} {v : Value} {a : AV} (h : RL C v a) (hf : ∀ f cs, a ≠ .fn f cs) : R1 C v a := by
 cases a <;> first | exact h | exact absurd rfl (hf _ _)
theorem R1.RL' {C : Ctx} {v : Value} {a : AV} (h : R1 C v a) (hf : ∀ f cs, a ≠ .fn f cs) : RL C v a := by
 cases a <;> first | exact h | exact absurd rfl (hf _ _)
theorem cv1_nfn {H : List Blk} {a a' : AV} (hc : Bv.cv1 n0 S H a (· = a')) : ∀ f cs, a ≠ .fn f cs := by
 rintro f cs rfl; exact hc
theorem Anew.cvA (h : Anew n0 S C C') (hC : HRep C) {v : Value} {a a' : AV} (hc : CvA n0 S C.H a a') (hr : RA C v a) : RA C' v a' := by
 rcases hc with ⟨cs, cs', rfl, rfl, hl, hcs⟩ | ⟨f, cs, cs', rfl, rfl, hl, hcs⟩ | ⟨h1, h2, h3, hc⟩
 ·obtain ⟨vs, rfl, hsz, hc, ho⟩ := hr
  refine ⟨vs, rfl, by omega, fun i hi => ?_, ho⟩
  have hi0 : i < cs.length := by omega
  have := hcs i hi0 hi
  have hl1 := h.cv1 hC this ((hc i hi0).RL' (cv1_nfn this))
  exact hl1.R1' (cv1_leaf this).2.2
 ·obtain ⟨cv, rfl, hsz, hc⟩ := hr
  refine ⟨cv, rfl, by omega, fun i hi => ?_⟩
  have hi0 : i < cs.length := by omega
  exact h.cv1 hC (hcs i hi0 hi) (hc i hi0)
 ·have hr : RL C v a := by cases a <;> first | exact hr | exact absurd rfl (h1 _) | exact absurd rfl (h2 _ _)
  have h4 := h.cv1 hC hc hr
  obtain ⟨l1, l2, l3⟩ := cv1_leaf hc
  cases a' <;> first | exact h4 | exact absurd rfl (l1 _) | exact absurd rfl (l3 _ _)
theorem CvA.nt {H : List Blk} {a a' : AV} (hc : CvA n0 S H a a') : (∀ vs, a ≠ .tup vs) ∧ ∀ vs, a' ≠ .tup vs := by
 rcases hc with ⟨cs, cs', rfl, rfl, _⟩ | ⟨f, cs, cs', rfl, rfl, _⟩ | ⟨h1, h2, h3, hc⟩
 ·simp
 ·simp
 ·exact ⟨h3, (cv1_leaf hc).2.1⟩
theorem Anew.cvT (h : Anew n0 S C C') (hC : HRep C) {v : Value} {a a' : AV} (hc : CvA n0 S C.H a a') (hr : RT C v a) : RT C' v a' := by
 have h1 := h.cvA hC hc (hr.RA hc.nt.1)
 have h2 := hc.nt.2
 cases a' <;> first | exact h1 | exact absurd rfl (h2 _)
/-- The state laid anew is there. -/
theorem anew {C0 C : Ctx} (hE : Ext C0 C) (hC : HRep C) {S : List Nat} (hS : (nodupB S && allGe C0.H.length S) = true) {H' : List Blk} (hlen : H'.length = (List.range C0.H.length ++ S).length)
  (hH : ∀ (i : Nat) (h : i < (List.range C0.H.length ++ S).length) (h' : i < H'.length), ∃ b, C.H[(List.range C0.H.length ++ S)[i]]? = some b ∧ CvBlk C0.H.length S C.H b H'[i]) :
  ∃ C' : Ctx, C'.w = C.w ∧ C'.H = H' ∧ Anew C0.H.length S C C' ∧ Ext C0 C' ∧ HRep C' := by
 let T := List.range C0.H.length ++ S
 have hnd : T.Nodup := mapT_nodup hS
 let C' : Ctx := ⟨C.w, C.F, fun i => C.β (T.getD i 0), H'⟩
 have hT : ∀ (j : Nat) (hj : j < H'.length), T.getD j 0 = T[j]'(by rw [← hlen]; exact hj) := fun j hj => by
  simp [List.getD_eq_getElem?_getD, List.getElem?_eq_getElem (show j < T.length by rw [← hlen]; exact hj)]
 -- a block of the new state and its old one
 have blk : ∀ (j : Nat) (b' : Blk), H'[j]? = some b' → ∃ (hj : j < T.length) (b : Blk), C.H[T[j]]? = some b ∧ CvBlk C0.H.length S C.H b b' ∧ C'.β j = C.β T[j] := by
  intro j b' hb
  obtain ⟨hj, rfl⟩ := List.getElem?_eq_some_iff.1 hb
  have hjT : j < T.length := by rw [← hlen]; exact hj
  obtain ⟨b, h1, h2⟩ := hH j hjT hj
  exact ⟨hjT, b, h1, h2, by show C.β (T.getD j 0) = _; rw [hT j hj]⟩
 have blive : ∀ {b b' : Blk}, CvBlk C0.H.length S C.H b b' → (b'.live ↔ b.live) := by
  intro b b' hc
  rcases hc with ⟨sh, x, x', rfl, rfl, _⟩ | ⟨rfl, _⟩
  ·simp [Blk.live]
  ·exact Iff.rfl
 have owned : ∀ b, C'.owned b → C.owned b := by
  rintro b ⟨j, b', hj, hl, rfl⟩
  obtain ⟨hjT, b0, h1, h2, h3⟩ := blk j b' hj
  exact ⟨T[j], b0, h1, (blive h2).1 hl, h3.symm⟩
 have hG : ∀ b, C.G b → C'.G b := fun b hb => ⟨hb.1, hb.2.1, fun ho => hb.2.2 (owned b ho)⟩
 have hpos : ∀ id j, pos C0.H.length S id = some j → ∃ hj : j < T.length, T[j] = id := by
  intro id j hj
  have := pos_some hj
  obtain ⟨h1, h2⟩ := List.getElem?_eq_some_iff.1 this
  exact ⟨h1, h2⟩
 have hA : Anew C0.H.length S C C' := by
  refine ⟨rfl, rfl, fun id j hj => ?_, hG, fun id k hk hl hn => ?_⟩
  ·obtain ⟨hjT, hid⟩ := hpos id j hj
   have hjH : j < H'.length := by rw [hlen]; exact hjT
   refine ⟨hjH, by show C.β (T.getD j 0) = _; rw [hT j hjH, hid], fun k sh es he => ?_, fun es he => ?_, fun sh es he => ?_⟩
   rotate_right
   ·obtain ⟨_, b, h1, h2, _⟩ := blk j _ he
    rw [hid] at h1
    rcases h2 with ⟨sh', x, x', rfl, e, _⟩ | ⟨rfl, _⟩
    ·cases e
    ·exact h1
   ·obtain ⟨_, b, h1, h2, _⟩ := blk j _ he
    rw [hid] at h1
    rcases h2 with ⟨sh', x, x', rfl, e, _⟩ | ⟨rfl, _⟩
    ·cases e; exact ⟨_, h1, rfl⟩
    ·exact ⟨_, h1, rfl⟩
   ·obtain ⟨_, b, h1, h2, _⟩ := blk j _ he
    rw [hid] at h1
    rcases h2 with ⟨sh', x, x', rfl, e, _⟩ | ⟨rfl, _⟩
    ·cases e
    ·exact h1
  ·refine ⟨hC.lt hk hl, hC.notF id k hk hl, ?_⟩
   rintro ⟨j, b', hj, hjl, hb⟩
   obtain ⟨hjT, b0, h1, h2, h3⟩ := blk j b' hj
   have : T[j] = id := hC.inj _ _ _ _ h1 hk ((blive h2).1 hjl) hl (h3 ▸ hb)
   exact pos_none hn (this ▸ List.getElem_mem hjT)
 have conv : ∀ {b b' : Blk}, CvBlk C0.H.length S C.H b b' → ∀ {k : RK} {sh : Sh} {es : List AV}, b' = .row k sh es → ∃ es0, b = .row k sh es0 ∧ es0.length = es.length ∧
   ∀ (i : Nat) (h0 : i < es0.length) (h1 : i < es.length), (k = .box ∧ CvA C0.H.length S C.H es0[i] es[i]) ∨ (es0[i] = es[i] ∧ k ≠ .box) := by
  intro b b' hc k sh es he
  rcases hc with ⟨sh', x, x', rfl, rfl, hx⟩ | ⟨rfl, hnb⟩
  ·cases he
   refine ⟨[x], rfl, rfl, fun i h0 h1 => ?_⟩
   simp at h0; subst h0
   exact .inl ⟨rfl, hx⟩
  ·subst he
   exact ⟨es, rfl, rfl, fun i h0 h1 => .inr ⟨rfl, fun hk => by subst hk; exact hnb _ _ rfl⟩⟩
 refine ⟨C', rfl, rfl, hA, ?_, ?_⟩
 ·refine ⟨hE.F, hE.os, hE.tape, hE.output, hE.size, ?_, fun id hid => ?_, hE.keep, fun id k hid hk hl => ?_, fun id k sh es hid he => ?_, fun id es hid he => ?_, fun id sh es hid he => ?_⟩
  rotate_right
  ·obtain ⟨hjT, b0, h1, h2, h3⟩ := blk id _ he
   have : T[id] = id := by simp only [T]; rw [List.getElem_append_left (by simpa using hid)]; simp
   rw [this] at h1
   rcases h2 with ⟨sh', x, x', rfl, e, _⟩ | ⟨rfl, _⟩
   ·cases e
   ·rcases hE.ros id sh es hid h1 with h4 | ⟨k, es0, h4, h5, h6⟩
    ·exact .inl h4
    ·exact .inr ⟨k, es0, h4, h5, fun hl => (h6 hl).mono fun b hb => ⟨hG b hb, rfl⟩⟩
  ·show C0.H.length ≤ H'.length
   rw [hlen]; simp
  ·have hidT : id < T.length := by simp [T]; omega
   show C.β (T.getD id 0) = _
   rw [hT id (by rw [hlen]; exact hidT)]
   have : T[id] = id := by simp only [T]; rw [List.getElem_append_left (by simpa using hid)]; simp
   rw [this]
   exact hE.beta id hid
  ·obtain ⟨hjT, b0, h1, h2, h3⟩ := blk id k hk
   have h4 : C0.H.length ≤ T[id] := by
    simp only [T]
    rw [List.getElem_append_right (by simpa using hid)]
    simp only [Bool.and_eq_true] at hS
    exact allGe_spec S hS.2 _ (List.getElem_mem _)
   rw [h3]
   exact hE.fresh _ b0 h4 h1 ((blive h2).1 hl)
  ·obtain ⟨hjT, b0, h1, h2, h3⟩ := blk id _ he
   obtain ⟨es0, rfl, hl0, _⟩ := conv h2 rfl
   have : T[id] = id := by simp only [T]; rw [List.getElem_append_left (by simpa using hid)]; simp
   rw [this] at h1
   obtain ⟨es1, h4, h5, h6⟩ := hE.rows id k sh es0 hid h1
   exact ⟨es1, h4, by omega, fun hl => h6 (Blk.live_row hl0.symm hl)⟩
  ·obtain ⟨hjT, b0, h1, h2, h3⟩ := blk id _ he
   have : T[id] = id := by simp only [T]; rw [List.getElem_append_left (by simpa using hid)]; simp
   rw [this] at h1
   rcases h2 with ⟨sh', x, x', rfl, e, _⟩ | ⟨rfl, _⟩
   ·cases e
   ·exact hE.maps id es hid h1
 ·refine ⟨fun i j k m hi hj hk hm hb => ?_, fun i k hi hk => ?_, hC.Flt, fun id k sh es he => ?_, fun id k sh es he hl => ?_, fun id es he => ?_⟩
  ·obtain ⟨hiT, bi, h1, h2, h3⟩ := blk i k hi
   obtain ⟨hjT, bj, h4, h5, h6⟩ := blk j m hj
   rw [h3, h6] at hb
   have := hC.inj _ _ _ _ h1 h4 ((blive h2).1 hk) ((blive h5).1 hm) hb
   exact (List.getElem_inj hnd).1 this
  ·obtain ⟨hiT, bi, h1, h2, h3⟩ := blk i k hi
   rw [h3]
   exact hC.notF _ _ h1 ((blive h2).1 hk)
  ·obtain ⟨hjT, b0, h1, h2, h3⟩ := blk id _ he
   obtain ⟨es0, rfl, hl0, _⟩ := conv h2 rfl
   exact hC.sz _ _ _ _ h1
  ·obtain ⟨hjT, b0, h1, h2, h3⟩ := blk id _ he
   obtain ⟨es0, rfl, hl0, hcv⟩ := conv h2 rfl
   obtain ⟨c, T', fz, hc, e1, e2, e3, hel⟩ := hC.row _ k sh es0 h1 (Blk.live_row hl0.symm hl)
   rw [h3]
   refine ⟨c, T', fz, hc, e1, by rw [← hl0]; exact e2, e3, fun i hi => ?_⟩
   have hi0 : i < es0.length := by omega
   obtain ⟨v, hv, hvp, hvs, hvc⟩ := hel i hi0
   rcases hcv i hi0 hi with ⟨hk, hx⟩ | ⟨he', hk⟩
   ·exact ⟨v, hA.cvA hC hx hv, fun hkk => absurd hk hkk, hvs, hvc⟩
   ·have := hvp hk
    refine ⟨v, by rw [← he']; exact (hA.RP this).RA, fun _ => by rw [← he']; exact hA.RP this, hvs, hvc⟩
  ·obtain ⟨hjT, b0, h1, h2, h3⟩ := blk id _ he
   rcases h2 with ⟨sh', x, x', rfl, e, _⟩ | ⟨rfl, _⟩
   ·cases e
   ·obtain ⟨me, cl, h4, h5, h6⟩ := hC.map _ es h1
    rw [h3]
    refine ⟨me, cl, h4, h5, fun i hi => ?_⟩
    obtain ⟨m, h7, h8, h9⟩ := h6 i hi
    exact ⟨m, h7, hA.RP h8, hA.RP h9⟩
end
end Go.Bv
namespace Go.Bv
open Go
section
variable {P : Program} (Γ : Tab P) {C : Ctx} (hC : HRep C) {a : Act} {fr : Fr} (hf : FrOk C a fr) {o : Oper} {next : AV → List Blk → Prop}
include hC hf
theorem snd_clear {t : TypeId} {x : Operand} {ct : Array TypeId} {ca : Array Operand} (ho : o.op = .call ⟨.builtin .clear, ca, ct⟩) (hct : ct.toList = [t]) (hca : ca.toList = [x])
  (h : aop Γ fr (.call ⟨.builtin .clear, ca, ct⟩) C.H next) : Snd P o a C next := by
 simp only [aop, hct, hca] at h
 have hx := hf.ev x
 have hct : ct = #[t] := by apply Array.ext'; simpa using hct
 have hca : ca = #[x] := by apply Array.ext'; simpa using hca
 subst hct hca
 have run0 : ∀ v w', (Builtin.clear_ #[t] o.type #[a.eval x]).run P C.w = .ok v w' → (execOp a.eval o).run P C.w = .ok (.value v) w' := by
  intro v w' hv
  simp only [execOp, ho, resolve, Sem.run_bind, Sem.run_pure, Result.andThen_ok, invoke, builtin, List.map_toArray, List.map_cons, List.map_nil, hv]
 split at h
 case h_2 => exact h.elim
 rename_i sh0 by0 e z0 hti
 obtain ⟨i, d, hi⟩ := Γ.info hti
 have hd := hi.slice rfl; subst hd
 split at h
 case h_2 => exact h.elim
 rename_i sh by' kd z hte
 obtain ⟨i', d', hi'⟩ := Γ.info hte
 split at h
 ·rename_i hxe
  rw [hxe] at hx
  have hb := hx.nils
  refine ⟨_, _, h, Yield.same hC (v := .tuple #[]) (run0 _ _ ?_) trivial⟩
  simp [Builtin.clear_, run_und C.w hi.und, hb]
 ·rename_i s l hxe
  rw [hxe] at hx
  obtain ⟨rfl, h⟩ := h
  have hx : RP C.w C.G (a.eval x) (.list s []) := hx
  obtain ⟨ad, c, hb⟩ : ∃ ad c, a.eval x = .slice ad 0 c := by
   generalize a.eval x = u at hx
   generalize hq : AV.list s [] = q at hx
   cases hx <;> cases hq <;> exact ⟨_, _, rfl⟩
  refine ⟨_, _, h, Yield.same hC (v := .tuple #[]) (run0 _ _ ?_) trivial⟩
  cases ad <;> simp [Builtin.clear_, run_und C.w hi.und, hb]
 ·rename_i id off len hxe
  rw [hxe] at hx
  split at h
  case h_2 => exact h.elim
  rename_i hz
  simp only [Bool.and_eq_true] at hz
  split at h
  case h_2 => exact h.elim
  rename_i kk s es hid
  split at h
  ·exact h.elim
  rename_i hkk
  split at h
  case h_2 => exact h.elim
  rename_i hbq
  have := Sh.beq_eq hbq; subst this
  obtain ⟨hone, hidl, hv, hvb, hvr⟩ := hx
  have hbd := hvb kk _ es hid
  obtain ⟨hvn, hvl⟩ := hv kk _ es hid
  obtain ⟨zv, hzi, hze⟩ := hi'.zeroOk (sh := s) hz.1
  have hze : avOfA zv = z := hze
  have hra : RA C zv z := hze ▸ RA_avOfA zv
  have hzs := hra.shOk hz.1
  have hzp := hra.pure hz.2
  have hp := hC.sz id kk s es hid
  by_cases hl : (Blk.row kk s es).live
  ·obtain ⟨cap, hvv, hcap, hes, c, T, fz, hc, hcs⟩ := hvl hl
   obtain ⟨c', T', fz', hc', hfz, hsz, hone', hel⟩ := hC.row id kk s es hid hl
   rw [hc] at hc'; cases hc'
   have hlt := (Array.getElem?_eq_some_iff.1 hc).1
   have hcl : (Builtin.zeroCells zv.cells len).toList.length = len * s.size := by simp [zeroCells_size, hzs.size]
   have hfit : off * s.size + len * s.size ≤ c.size := by
    have := Nat.mul_le_mul_right s.size hbd
    rw [Nat.add_mul] at this; omega
   have hst := run_storeCells_rep (P := P) (b := C.β id) (o := off * s.size) (T := T) (fr := fz) (Builtin.zeroCells zv.cells len).toList 0 c C.w hc (by omega) (fzNot hfz) (fun v hv => by
    rw [Array.mem_toList_iff] at hv
    obtain ⟨i, hi, rfl⟩ := Array.mem_iff_getElem.1 hv
    exact zeroCells_one hzs len (Array.getElem?_eq_getElem hi))
   rw [Nat.add_zero] at hst
   have hlen : (es.take off ++ (List.replicate len z ++ es.drop (off + len))).length = es.length := by simp; omega
   have hsz' : (writeAt c (off * s.size) (Builtin.zeroCells zv.cells len).toList).size = c.size := writeAt_size _ _ _
   have hE := set_ext hC hid hl hlen hc hsz'
   have hget : ∀ q, (writeAt c (off * s.size) (Builtin.zeroCells zv.cells len).toList)[q]? = if off * s.size ≤ q ∧ q < off * s.size + len * s.size then (Builtin.zeroCells zv.cells len)[q - off * s.size]? else c[q]? := by
    intro q
    have := writeAt_get (Builtin.zeroCells zv.cells len).toList c (off * s.size) q (by omega)
    rw [hcl, Array.getElem?_toList] at this
    exact this
   have hlz := Lay.zeros (w := C.w) (G := C.G) hzp hzs len
   have hrow : RowAt { C with w := World.write C.w (C.β id) (writeAt c (off * s.size) (Builtin.zeroCells zv.cells len).toList) T fz, H := C.H.set id (.row kk s (es.take off ++ (List.replicate len z ++ es.drop (off + len)))) } (C.β id) kk s (es.take off ++ (List.replicate len z ++ es.drop (off + len))) := by
    refine ⟨_, T, fz, by simp [World.write, hlt]; rfl, by rw [writeAt_size]; exact hfz, by rw [writeAt_size, hlen]; exact hsz, fun q y hy => ?_, fun i hi' => ?_⟩
    ·rw [hget] at hy
     split at hy
     ·exact zeroCells_one hzs len hy
     ·exact hone' q y hy
    ·have hi2 : i < es.length := by rw [hlen] at hi'; exact hi'
     by_cases hin : off ≤ i ∧ i < off + len
     ·obtain ⟨u, hu1, hu2, hu3⟩ := hlz.2 (i - off) (by simp; omega)
      have eg : (es.take off ++ (List.replicate len z ++ es.drop (off + len)))[i]'hi' = (List.replicate len z)[i - off]'(by simp; omega) := by
       rw [List.getElem_append_right (by simp; omega), List.getElem_append_left (by simp; omega)]
       simp
      refine ⟨u, by rw [eg]; exact hE.RA hu1.RA, fun hk => by rw [eg]; exact hE.RP hu1, hu2, fun j hj => ?_⟩
      have e1 : i * s.size = off * s.size + (i - off) * s.size := by rw [← Nat.add_mul]; congr 1; omega
      have := idx_lt (show i - off < len by omega) hj
      rw [hget, if_pos (by omega), ← hu3 j hj]
      congr 1; omega
     ·obtain ⟨u, hu1, hu2, hu3, hu4⟩ := hel i hi2
      have eg : (es.take off ++ (List.replicate len z ++ es.drop (off + len)))[i]'hi' = es[i]'hi2 := by
       rcases Nat.lt_or_ge i off with h4 | h4
       ·rw [List.getElem_append_left (by simp; omega)]; simp
       ·rw [List.getElem_append_right (by simp; omega), List.getElem_append_right (by simp; omega)]
        simp only [List.getElem_drop, List.length_take, List.length_replicate]
        congr 1; omega
      refine ⟨u, by rw [eg]; exact hE.RA hu1, fun hk => by rw [eg]; exact hE.RP (hu2 hk), hu3, fun j hj => ?_⟩
      rw [hget, if_neg]
      ·exact hu4 j hj
      ·intro hh
       rcases Nat.lt_or_ge i off with h4 | h4
       ·have := idx_lt h4 hj; omega
       ·have h5 : (off + len) * s.size ≤ i * s.size := Nat.mul_le_mul_right _ (by omega)
        rw [Nat.add_mul] at h5; omega
   refine ⟨_, _, h, Yield.of (C' := { C with w := World.write C.w (C.β id) (writeAt c (off * s.size) (Builtin.zeroCells zv.cells len).toList) T fz, H := C.H.set id (.row kk s (es.take off ++ (List.replicate len z ++ es.drop (off + len)))) }) (v := .tuple #[]) (run0 _ _ ?_) hE (set_hrep hC hid hl hlen hc hsz' hrow) trivial⟩
   rw [hvv]
   cases len with
   | zero =>
    have hz0 : (Builtin.zeroCells zv.cells 0).toList = [] := List.eq_nil_of_length_eq_zero (by rw [hcl]; omega)
    rw [hz0] at hst
    simp only [storeCells, Sem.run_pure, Result.ok.injEq, true_and] at hst
    simp only [Builtin.clear_, Sem.run_bind, List.getElem?_toArray, List.getElem?_cons_zero, run_und C.w hi.und, Result.andThen_ok, Sem.run_pure]
    rw [hz0, ← hst]
   | succ n =>
    simp only [Builtin.clear_, Sem.run_bind, List.getElem?_toArray, List.getElem?_cons_zero, run_und C.w hi.und, Result.andThen_ok, Sem.run_pure, run_zero C.w hi'.info hzi]
    rw [hst]; rfl
  ·obtain ⟨rfl, rfl⟩ := Blk.not_live_row hl
   obtain ⟨ad, hvv, rfl⟩ := hvn hl
   have hset : C.H.set id (.row .vrow s ([].take off ++ (List.replicate 0 z ++ [].drop (off + 0)))) = C.H := by
    apply List.ext_getElem?
    intro i
    rw [List.getElem?_set]
    split
    ·rename_i e; subst e
     rw [hid]; simp [hidl]
    ·rfl
   rw [hset] at h
   refine ⟨_, _, h, Yield.same hC (v := .tuple #[]) (run0 _ _ ?_) trivial⟩
   rw [hvv]
   cases ad <;> simp [Builtin.clear_, run_und C.w hi.und]
 ·exact h.elim
omit hC hf in
theorem allLeaf_spec : ∀ {fs : List (Nat × Sh)}, allLeaf fs = true → ∀ p ∈ fs, p.2 = .leaf
 | [], _, p, hp => by cases hp
 | (_, .leaf) :: r, h, p, hp => by
  rcases List.mem_cons.1 hp with rfl | hp
  ·rfl
  ·exact allLeaf_spec (fs := r) h p hp
 | (_, .agg _) :: r, h, p, hp => by simp [allLeaf] at h
omit hC hf in
theorem eqKinds_leaf {sub : List Field → Option (List Nat)} : ∀ (fs : List Field) (i : Nat) (ks : List Nat), eqKs P sub i fs = some ks → (∀ f ∈ fs, shOf P f.type = .leaf) →
  ks.length = fs.length ∧ ∀ (j : Nat) (f : Field), fs[j]? = some f → f.offset = i + j ∧ ∃ d, P.underlying f.type = some d ∧ (d = .bool ∨ (∃ k, d = .int k) ∨ d = .string)
 | [], i, ks, h, _ => by simp only [eqKs, Option.some.injEq] at h; subst h; simp
 | f :: r, i, ks, h, hl => by
  obtain ⟨hn, hoff, ⟨c, ks', rfl, hk', hc⟩ | ⟨fs, ks1, ks', rfl, hund, hs1, hlen1, hst, hk'⟩⟩ := eqKs_cons h
  ·obtain ⟨h1, h2⟩ := eqKinds_leaf r (i + 1) ks' hk' (fun f hf => hl f (List.mem_cons_of_mem _ hf))
   refine ⟨by simp [h1], fun j g hj => ?_⟩
   cases j with
   | zero =>
    simp only [List.getElem?_cons_zero, Option.some.injEq] at hj
    subst hj
    refine ⟨by omega, ?_⟩
    rcases hc with ⟨_, k, hk⟩ | ⟨_, hk⟩ | ⟨_, hk⟩
    ·exact ⟨_, hk, .inr (.inl ⟨_, rfl⟩)⟩
    ·exact ⟨_, hk, .inr (.inr rfl)⟩
    ·exact ⟨_, hk, .inl rfl⟩
   | succ j =>
    obtain ⟨g1, g2⟩ := h2 j g (by simpa using hj)
    exact ⟨by omega, g2⟩
  ·have := hl f (List.mem_cons_self ..)
   rw [shOf_eq hund] at this
   simp [isAggD] at this
omit hC hf in
theorem run_checkKey_leaves {kt : TypeId} {fields : Array Field} (hu : P.underlying kt = some (.struct fields)) {cs : Array Value} (hcs : ∀ (j : Nat) (f : Field), fields.toList[j]? = some f → ∃ v, cs[f.offset]? = some v ∧ ∃ d, P.underlying f.type = some d ∧ (d = .bool ∨ (∃ k, d = .int k) ∨ d = .string))
  (em : Bool) (n : Nat) (w : World) : (Instr.checkKey em (n + 2) kt (.agg cs)).run P w = .ok () w := by
 rw [Instr.checkKey]
 simp only [Sem.run_bind, run_und w hu, Result.andThen_ok]
 rw [← Array.forIn_toList]
 have hcs : ∀ f ∈ fields.toList, ∃ v, cs[f.offset]? = some v ∧ ∃ d, P.underlying f.type = some d ∧ (d = .bool ∨ (∃ k, d = .int k) ∨ d = .string) := fun f hf => by
  obtain ⟨j, hj⟩ := List.getElem?_of_mem hf
  exact hcs j f hj
 generalize fields.toList = l at hcs
 induction l with
 | nil => simp
 | cons f r ih =>
  obtain ⟨v, hv, d, hd, hk⟩ := hcs f (List.mem_cons_self ..)
  have hag : isAggD d = false := by rcases hk with rfl | ⟨k, rfl⟩ | rfl <;> rfl
  have hck : (Instr.checkKey em (n + 1) f.type v).run P w = .ok () w := by
   rw [Instr.checkKey]
   simp only [Sem.run_bind, run_und w hd, Result.andThen_ok]
   rcases hk with rfl | ⟨k, rfl⟩ | rfl <;> rfl
  have ih := ih fun f hf => hcs f (List.mem_cons_of_mem _ hf)
  simp only [List.forIn_cons, Sem.run_bind, Sem.run_ite, run_part_leaf hd hag hv, Result.andThen_ok, hck, Sem.run_pure]
  split <;> simpa using ih
omit hC hf in
theorem run_findAsking {kt : TypeId} {ks : List Nat} {G : Nat → Prop} {w0 : World} {kv : Value} {key : AV}
  (heq : ∀ (v : Value) (k : AV) (b : Bool) (w : World), keyEq ks key k = some b → RP w0 G v k → (Op.equal kt kv v).run P w = .ok b w) (w : World) :
  ∀ (me : List MapEntry) (es : List (AV × AV)) (i : Nat), me.length = es.length → (∀ (j : Nat) (h : j < es.length) (h' : j < me.length), RP w0 G me[j].key es[j].1) →
  (∀ (j : Nat) (k v : AV), es[j]? = some (k, v) → keyEq ks key k = some true → (∀ q, q < j → ∀ k' v', es[q]? = some (k', v') → keyEq ks key k' = some false) → ∃ m, me[j]? = some m ∧ (Instr.findAsking kt kv me i).run P w = .ok (some (i + j, m.val)) w) ∧
  ((∀ (j : Nat) (k v : AV), es[j]? = some (k, v) → keyEq ks key k = some false) → (Instr.findAsking kt kv me i).run P w = .ok none w)
 | [], [], i, _, _ => ⟨fun j k v h => by simp at h, fun _ => rfl⟩
 | [], _ :: _, i, h, _ => by simp at h
 | _ :: _, [], i, h, _ => by simp at h
 | m :: me, (k0, v0) :: es, i, hl, hr => by
  obtain ⟨ih1, ih2⟩ := run_findAsking heq w me es (i + 1) (by simpa using hl) (fun j h h' => hr (j + 1) (by simpa using h) (by simpa using h'))
  have h0 := hr 0 (by simp) (by simp)
  simp only [List.getElem_cons_zero] at h0
  refine ⟨fun j k v hj hk hq => ?_, fun hall => ?_⟩
  ·cases j with
   | zero =>
    simp only [List.getElem?_cons_zero, Option.some.injEq, Prod.mk.injEq] at hj
    obtain ⟨rfl, rfl⟩ := hj
    exact ⟨m, rfl, by simp only [Instr.findAsking, Sem.run_bind, heq _ _ _ w hk h0, Result.andThen_ok, if_true, Sem.run_pure, Nat.add_zero]⟩
   | succ j =>
    have hk0 := hq 0 (by omega) k0 v0 rfl
    obtain ⟨m', hm, hrun⟩ := ih1 j k v (by simpa using hj) hk (fun q hqj k' v' hh => hq (q + 1) (by omega) k' v' (by simpa using hh))
    refine ⟨m', by simpa using hm, ?_⟩
    simp only [Instr.findAsking, Sem.run_bind, heq _ _ _ w hk0 h0, Result.andThen_ok, Bool.false_eq_true, if_false]
    rw [hrun, show i + 1 + j = i + (j + 1) by omega]
  ·have hk0 := hall 0 k0 v0 rfl
   simp only [Instr.findAsking, Sem.run_bind, heq _ _ _ w hk0 h0, Result.andThen_ok, Bool.false_eq_true, if_false]
   exact ih2 fun j k v hj => hall (j + 1) k v (by simpa using hj)
omit hC hf in
theorem run_findKey_struct {kt : TypeId} {fields : Array Field} (hu : P.underlying kt = some (.struct fields)) (kv : Value) (me : List MapEntry) (w : World) : (Instr.findKey kt kv me).run P w = (Instr.findAsking kt kv me).run P w := by
 cases me with
 | nil => simp [Instr.findKey, run_und w hu, Instr.findNow, Instr.findAsking]
 | cons e r => simp [Instr.findKey, run_und w hu, Instr.findNow, Instr.sameNow]
omit hC hf in
/-- What a key's type tells. -/
structure KeyT (P : Program) (kt : TypeId) (ks : List Nat) : Prop where
 fields : ∃ fields, P.underlying kt = some (.struct fields) ∧ eqKinds P 0 fields.toList = some ks ∧ P.stoodInHeld kt = false ∧ ∀ f ∈ fields.toList, shOf P f.type = .leaf
omit hC hf in
theorem keyT {kt : TypeId} {ti : TI} {fs : List (Nat × Sh)} {ks : List Nat} (h : tget Γ.tbl kt = some ti) (hk : ti.kind = .struct fs (some ks)) (hl : allLeaf fs = true) : KeyT P kt ks := by
 obtain ⟨i, d, hi⟩ := Γ.info h
 obtain ⟨fields, rfl, hfs, heq, _⟩ := hi.struct hk
 split at heq
 ·rename_i hok
  simp only [Bool.and_eq_true, Bool.not_eq_true'] at hok
  refine ⟨fields, hi.und, heq.symm, hok.1, fun f hf => ?_⟩
  subst hfs
  exact allLeaf_spec hl (f.offset, shOf P f.type) (List.mem_map.2 ⟨f, hf, rfl⟩)
 ·cases heq
omit hC hf in
theorem KeyT.equal {kt : TypeId} {ks : List Nat} (h : KeyT P kt ks) {w0 : World} {G : Nat → Prop} {u v : Value} {x y : AV} {b : Bool} (hb : keyEq ks x y = some b) (hu : RP w0 G u x) (hv : RP w0 G v y) (w : World) :
  (Op.equal kt u v).run P w = .ok b w := by
 obtain ⟨fields, hund, hek, hst, _⟩ := h.fields
 unfold keyEq at hb
 split at hb
 ·split at hb
  ·rename_i _ xs _ ys
   cases hu with
   | agg us cs hus hur huo =>
   cases hv with
   | agg vs ds hvs hvr hvo =>
   have hF : P.fieldsOf kt = fields := by simp [Program.fieldsOf, hund]
   have hrun := run_equalIn_struct (P := P) w 9999 kt us vs (by rw [hF]; exact hund) hst
   rw [hF, allEqA_snd (P := P) 9996 w0 G w fields.toList ks us vs xs ys b hek hb
    (fun j hj => ⟨us.getD j undef, by simp [Array.getD_eq_getD_getElem?, Array.getElem?_eq_getElem (show j < us.size by omega)], fun _ => hur j hj⟩)
    (fun j hj => ⟨vs.getD j undef, by simp [Array.getD_eq_getD_getElem?, Array.getElem?_eq_getElem (show j < vs.size by omega)], fun _ => hvr j hj⟩)] at hrun
   exact hrun
  ·cases hb
 ·cases hb
omit hC hf in
theorem KeyT.check {kt : TypeId} {ks : List Nat} (h : KeyT P kt ks) {w0 : World} {G : Nat → Prop} {u : Value} {xs : List AV} (hl : xs.length = ks.length) (hu : RP w0 G u (.agg xs)) (em : Bool) (w : World) : (Instr.checkKey em 10000 kt u).run P w = .ok () w := by
 obtain ⟨fields, hund, hek, hst, hlf⟩ := h.fields
 obtain ⟨h1, h2⟩ := eqKinds_leaf _ _ _ hek hlf
 cases hu with
 | agg us cs hus hur huo =>
 refine run_checkKey_leaves (n := 9998) hund (fun j f hj => ?_) em w
 obtain ⟨h3, h4⟩ := h2 j f hj
 have hjl := (List.getElem?_eq_some_iff.1 hj).1
 rw [h3, Nat.zero_add]
 exact ⟨us[j]'(by omega), Array.getElem?_eq_getElem (by omega), h4⟩
omit hC hf in
omit hC hf in
theorem allEqA_bits {w0 : World} {G : Nat → Prop} (n : Nat) : ∀ (ks : List Nat) (xs ys : List AV) (us vs : List Value), allEqA ks xs ys = some true → us.length = xs.length → vs.length = ys.length →
  (∀ (j : Nat) (h : j < xs.length) (h' : j < us.length), RP w0 G us[j] xs[j]) → (∀ (j : Nat) (h : j < ys.length) (h' : j < vs.length), RP w0 G vs[j] ys[j]) → ((us.zip vs).all fun (x, y) => Instr.sameBits n x y) = true
 | [], xs, ys, us, vs, h, h1, h2, _, _ => by
  cases xs <;> cases ys <;> simp [allEqA] at h
  cases us <;> cases vs <;> simp at h1 h2 ⊢
 | c :: ks, xs, ys, us, vs, h, h1, h2, hu, hv => by
  cases xs with
  | nil => cases ys <;> simp [allEqA] at h
  | cons x xs =>
  cases ys with
  | nil => simp [allEqA] at h
  | cons y ys =>
  cases us with
  | nil => simp at h1
  | cons u us =>
  cases vs with
  | nil => simp at h2
  | cons v vs =>
   simp only [allEqA] at h
   split at h
   ·rename_i c1 hc1
    split at h
    ·rename_i d1 hd1
     simp only [Option.some.injEq, Bool.and_eq_true] at h
     obtain ⟨rfl, rfl⟩ := h
     have ih := allEqA_bits n ks xs ys us vs hd1 (by simpa using h1) (by simpa using h2) (fun j h h' => hu (j + 1) (by simpa using h) (by simpa using h')) (fun j h h' => hv (j + 1) (by simpa using h) (by simpa using h'))
     have u0 := hu 0 (by simp) (by simp)
     have v0 := hv 0 (by simp) (by simp)
     simp only [List.getElem_cons_zero] at u0 v0
     simp only [List.zip_cons_cons, List.all_cons, ih, Bool.and_true]
     unfold leafEqA at hc1
     split at hc1
     ·split at hc1
      ·rename_i hkb
       have := kindBeq_eq hkb; subst this
       cases u0; cases v0
       simp at hc1; simp [Instr.sameBits, hc1]
      ·cases hc1
     ·cases u0; cases v0
      rename_i a b
      simp only [Option.some.injEq, decide_eq_true_eq] at hc1
      have : a = b := by
       cases a; cases b; simp at hc1; simp [hc1]
      subst this
      simp [Instr.sameBits, MapKept.bytes_beq]
     ·cases u0; cases v0
      simp at hc1; simp [Instr.sameBits, hc1]
     ·cases hc1
    ·cases h
   ·cases h
omit hC hf in
theorem allEqA_symm : ∀ (ks : List Nat) (xs ys : List AV) {b : Bool}, allEqA ks xs ys = some b → allEqA ks ys xs = some b
 | [], xs, ys, b, h => by cases xs <;> cases ys <;> simp [allEqA] at h ⊢; exact h
 | c :: ks, xs, ys, b, h => by
  cases xs with
  | nil => cases ys <;> simp [allEqA] at h
  | cons x xs =>
  cases ys with
  | nil => simp [allEqA] at h
  | cons y ys =>
   simp only [allEqA] at h ⊢
   split at h
   ·rename_i c1 hc1
    split at h
    ·rename_i d1 hd1
     have h1 : leafEqA c y x = some c1 := by
      unfold leafEqA at hc1
      split at hc1
      ·split at hc1
       ·rename_i hkb
        have := kindBeq_eq hkb; subst this
        simp only [leafEqA, hkb, Option.some.injEq] at hc1 ⊢
        rw [← hc1]; exact decide_eq_decide.2 eq_comm
       ·cases hc1
      ·simp only [leafEqA, Option.some.injEq] at hc1 ⊢
       rw [← hc1]; exact decide_eq_decide.2 eq_comm
      ·simp only [leafEqA, Option.some.injEq] at hc1 ⊢
       rw [← hc1]; exact Bool.beq_comm
      ·cases hc1
     rw [h1, allEqA_symm ks xs ys hd1]
     exact h
    ·cases h
   ·cases h
omit hC hf in
theorem run_stays {ks : List Nat} {x y : AV} {w0 : World} {G : Nat → Prop} {u v : Value} (h : keyEq ks x y = some true) (hu : RP w0 G u x) (hv : RP w0 G v y) (w : World) : (Instr.keyThatStays v u).run P w = .ok u w := by
 have hb : Instr.sameBits 10000 v u = true := by
  unfold keyEq at h
  split at h
  ·split at h
   ·rename_i _ xs _ ys
    cases hu with
    | agg us cs hus hur huo =>
    cases hv with
    | agg vs ds hvs hvr hvo =>
    obtain ⟨hl1, hl2⟩ := allEqA_len _ _ _ _ h
    have := allEqA_bits (w0 := w0) (G := G) 9999 ks xs ys us.toList vs.toList h (by simpa using hus) (by simpa using hvs)
     (fun j h h' => by have := hur j h; simp only [Array.length_toList] at h'; simpa [Array.getD_eq_getD_getElem?, Array.getElem?_eq_getElem h'] using this)
     (fun j h h' => by have := hvr j h; simp only [Array.length_toList] at h'; simpa [Array.getD_eq_getD_getElem?, Array.getElem?_eq_getElem h'] using this)
    have h2 := allEqA_bits (w0 := w0) (G := G) 9999 ks ys xs vs.toList us.toList (allEqA_symm _ _ _ h) (by simpa using hvs) (by simpa using hus)
     (fun j h h' => by have := hvr j h; simp only [Array.length_toList] at h'; simpa [Array.getD_eq_getD_getElem?, Array.getElem?_eq_getElem h'] using this)
     (fun j h h' => by have := hur j h; simp only [Array.length_toList] at h'; simpa [Array.getD_eq_getD_getElem?, Array.getElem?_eq_getElem h'] using this)
    show (vs.size == us.size && (vs.toList.zip us.toList).all fun (x, y) => Instr.sameBits 9999 x y) = true
    rw [h2, hvs, hus, hl1, hl2]; simp
   ·cases h
  ·cases h
 simp [Instr.keyThatStays, hb]
/-- A map's block: what is found. -/
theorem map_find {kt : TypeId} {ks : List Nat} (hK : KeyT P kt ks) {id : Nat} {es : List (AV × AV)} (hid : C.H[id]? = some (.map es)) {kv : Value} {key : AV} (hkv : RP C.w C.G kv key) (hlen : ∀ xs, key = .agg xs → xs.length = ks.length) (hag : ∃ xs, key = .agg xs)
    {T : Nat → AV → Prop} {E : Prop} (h : NFind ks es key T E) :
    ∃ (me : Array MapEntry) (clock : Nat), C.w.heap[C.β id]? = some (.map me clock) ∧ me.size = es.length ∧ (∀ (i : Nat) (h : i < es.length), ∃ m, me[i]? = some m ∧ RP C.w C.G m.key es[i].1 ∧ RP C.w C.G m.val es[i].2) ∧
      ((∃ (i : Nat) (k v : AV) (m : MapEntry), es[i]? = some (k, v) ∧ keyEq ks key k = some true ∧ T i v ∧ me[i]? = some m ∧ RP C.w C.G m.key k ∧ RP C.w C.G m.val v ∧ ∀ w, (Instr.findKey kt kv me.toList).run P w = .ok (some (i, m.val)) w) ∨
       (E ∧ ∀ w, (Instr.findKey kt kv me.toList).run P w = .ok none w)) := by
  have _ := hf
  obtain ⟨me, clock, hc, hsz, hel⟩ := hC.map id es hid
  refine ⟨me, clock, hc, hsz, hel, ?_⟩
  obtain ⟨fields, hund, _⟩ := hK.fields
  have hfa := fun w => run_findAsking (P := P) (kt := kt) (ks := ks) (G := C.G) (w0 := C.w) (kv := kv) (key := key) (fun v k b w hb hv => hK.equal hb hkv hv w) w me.toList es 0 (by simpa using hsz) (fun j hj h' => by
    obtain ⟨m, hm, hk, _⟩ := hel j hj
    obtain ⟨_, e⟩ := Array.getElem?_eq_some_iff.1 hm
    simp only [Array.getElem_toList, e]; exact hk)
  cases h with
  | hit i k v hi he ha hn =>
    have hlt := (List.getElem?_eq_some_iff.1 hi).1
    obtain ⟨m, hm, hk, hv⟩ := hel i hlt
    have hie := (List.getElem?_eq_some_iff.1 hi).2
    rw [hie] at hk hv
    refine .inl ⟨i, k, v, m, hi, he, hn, hm, hk, hv, fun w => ?_⟩
    obtain ⟨m', hm', hrun⟩ := (hfa w).1 i k v hi he ha
    rw [Array.getElem?_toList, hm] at hm'
    cases hm'
    rw [run_findKey_struct hund, hrun, Nat.zero_add]
  | miss ha hn =>
    refine .inr ⟨hn, fun w => ?_⟩
    rw [run_findKey_struct hund]
    exact (hfa w).2 ha
omit hC hf in
theorem keyAgg_elim {ks : List Nat} {x : AV} {k : AV → Prop} (h : keyAgg ks x k) : ∃ cs, x = .agg cs ∧ cs.length = ks.length ∧ k (.agg cs) := by
 unfold keyAgg at h
 split at h
 ·split at h
  ·rename_i hb; exact ⟨_, rfl, Nat.eq_of_beq_eq_true hb, h⟩
  ·exact h.elim
 ·exact h.elim
theorem snd_lookup {t : TypeId} {x ix : Operand} {ok : Bool} (ho : o.op = .lookup t x ix ok) (h : aop Γ fr (.lookup t x ix ok) C.H next) : Snd P o a C next := by
 simp only [aop] at h
 have hx := hf.ev x
 have hix := hf.ev ix
 split at h
 case h_2 => exact h.elim
 rename_i sh0 by0 kt et z0 hti
 obtain ⟨i, d, hi⟩ := Γ.info hti
 have hd := hi.map rfl; subst hd
 split at h
 case h_2 => exact h.elim
 rename_i shk byk fs ks zk htk
 split at h
 case h_2 => exact h.elim
 rename_i sh by' kd z hte
 obtain ⟨i', d', hi'⟩ := Γ.info hte
 split at h
 case h_2 => exact h.elim
 rename_i id hxe
 rw [hxe] at hx
 split at h
 case h_2 => exact h.elim
 rename_i hck
 simp only [Bool.and_eq_true] at hck
 obtain ⟨hz, hpk, hlf⟩ := hck
 split at h
 case h_2 => exact h.elim
 rename_i es hid
 have hK := keyT Γ htk rfl hlf
 have hkv := (hix.RA (fun vs e => by rw [e] at hpk; simp [AV.pure, AV.pure1] at hpk)).pure hpk
 have hxv : a.eval x = .map (some (C.β id)) := hx.2.2 es hid
 obtain ⟨zv, hzi, hze⟩ := hi'.zeroOk (sh := sh) hz
 have hze : avOfA zv = z := hze
 have hrt : RT C zv z := hze ▸ RT_avOfA zv
 have hznt : ∀ vs, z ≠ .tup vs := isSh.notTup hz
 have run : ∀ {me : Array MapEntry} {clock : Nat} {r : Option (Nat × Value)} {cs : List AV}, C.w.heap[C.β id]? = some (.map me clock) → (∀ w, (Instr.findKey kt (a.eval ix) me.toList).run P w = .ok r w) → ev fr ix = .agg cs → cs.length = ks.length →
   (execOp a.eval o).run P C.w = .ok (.value (if ok then .tuple #[(match r with | some (_, v) => v | none => zv), .bool r.isSome] else (match r with | some (_, v) => v | none => zv))) C.w := by
  intro me clock r xs hc hfk hxs hxl
  have hck := hK.check (P := P) (w0 := C.w) (G := C.G) hxl (hxs ▸ hkv) me.isEmpty C.w
  simp only [execOp, ho, hxv]
  simp only [Instr.lookup, Sem.run_bind, run_und C.w hi.und, Result.andThen_ok, MapKept.run_getObj_map hc, Sem.run_pure, hck, hfk C.w]
  cases r with
  | none => cases ok <;> simp [run_zero C.w hi'.info hzi]
  | some p => cases ok <;> simp
 have nt : ∀ {v : Value} {x : AV}, RP C.w C.G v x → ∀ vs, x ≠ .tup vs := fun h vs e => by subst e; cases h
 split at h
 ·obtain ⟨cs, hcs, hcl, h⟩ := keyAgg_elim h
  rw [hcs] at hkv
  obtain ⟨me, clock, hc, _, _, hit⟩ := map_find hC hf hK hid hkv (fun xs e => by cases e; exact hcl) ⟨_, rfl⟩ h
  rcases hit with ⟨i, k, v, m, hi1, he, hn, hm, hmk, hmv, hfk⟩ | ⟨hn, hfk⟩
  ·rw [force_eq] at hn
   refine ⟨_, _, hn, Yield.same hC (v := .tuple #[m.val, .bool true]) ?_ ?_⟩
   ·exact run hc hfk hcs hcl
   ·refine ⟨#[m.val, .bool true], rfl, rfl, fun i hi => ?_⟩
    match i, hi with
    | 0, _ => exact (hmv.RT).RA (nt hmv)
    | 1, _ => exact (RP.bool (w := C.w) (G := C.G) true).RA
  ·refine ⟨_, _, hn, Yield.same hC (v := .tuple #[zv, .bool false]) ?_ ?_⟩
   ·exact run hc hfk hcs hcl
   ·refine ⟨#[zv, .bool false], rfl, rfl, fun i hi => ?_⟩
    match i, hi with
    | 0, _ => exact hrt.RA hznt
    | 1, _ => exact (RP.bool (w := C.w) (G := C.G) false).RA
 ·obtain ⟨cs, hcs, hcl, h⟩ := keyAgg_elim h
  rw [hcs] at hkv
  obtain ⟨me, clock, hc, _, _, hit⟩ := map_find hC hf hK hid hkv (fun xs e => by cases e; exact hcl) ⟨_, rfl⟩ h
  rcases hit with ⟨i, k, v, m, hi1, he, hn, hm, hmk, hmv, hfk⟩ | ⟨hn, hfk⟩
  ·rw [force_eq] at hn
   exact ⟨_, _, hn, Yield.same hC (v := m.val) (run hc hfk hcs hcl) hmv.RT⟩
  ·exact ⟨_, _, hn, Yield.same hC (v := zv) (run hc hfk hcs hcl) hrt⟩
omit hf in
theorem mset_ext {id : Nat} {es es' : List (AV × AV)} (hid : C.H[id]? = some (.map es)) (me' : Array MapEntry) (clock' : Nat) :
  Ext C { C with w := { C.w with heap := C.w.heap.setIfInBounds (C.β id) (.map me' clock') }, H := C.H.set id (.map es') } where
 F := rfl
 os := rfl
 tape := rfl
 output := rfl
 size := by simp
 len := by simp
 beta := fun _ _ => rfl
 keep := fun b hb ho => by
  have : C.β id ≠ b := fun e => ho ⟨id, _, hid, trivial, e⟩
  simp [Array.getElem?_setIfInBounds_ne this]
 fresh := fun i m hi hm _ => by
  have := (List.getElem?_eq_some_iff.1 hm).1
  simp at this
  omega
 rows := fun i kk s es2 _ he => by
  dsimp only at he
  rw [List.getElem?_set] at he
  split at he
  ·split at he <;> simp at he
  ·rename_i e
   refine ⟨es2, he, rfl, fun hl2 => ?_⟩
   obtain ⟨c2, T2, fr2, hc2, _⟩ := hC.row i kk s es2 he hl2
   have : C.β id ≠ C.β i := fun h => e (hC.inj id i _ _ hid he trivial hl2 h)
   exact ⟨c2, T2, fr2, c2, T2, fr2, hc2, by simp [Array.getElem?_setIfInBounds_ne this, hc2], rfl⟩
 maps := fun i es2 hi he => by
  dsimp only at he
  rw [List.getElem?_set] at he
  split at he
  ·rename_i e; subst e; exact ⟨es, hid⟩
  ·exact ⟨es2, he⟩
 ros := fun i sh2 es2 _ he => by
  dsimp only at he
  rw [List.getElem?_set] at he
  split at he
  ·split at he <;> simp at he
  ·exact .inl he
omit hf in
theorem mset_hrep {id : Nat} {es es' : List (AV × AV)} (hid : C.H[id]? = some (.map es)) {me' : Array MapEntry} {clock' : Nat} (hsz : me'.size = es'.length)
  (hel : ∀ (i : Nat) (h : i < es'.length), ∃ m, me'[i]? = some m ∧ RP C.w C.G m.key es'[i].1 ∧ RP C.w C.G m.val es'[i].2) :
  HRep { C with w := { C.w with heap := C.w.heap.setIfInBounds (C.β id) (.map me' clock') }, H := C.H.set id (.map es') } := by
 have hE := mset_ext hC (es' := es') hid me' clock'
 have hlt := hC.lt hid trivial
 have old : ∀ {i : Nat} {m : Blk}, (C.H.set id (.map es'))[i]? = some m → (i = id ∧ m = .map es') ∨ (i ≠ id ∧ C.H[i]? = some m) := by
  intro i m hm
  rw [List.getElem?_set] at hm
  split at hm
  ·rename_i e; subst e
   split at hm
   ·have hm := Option.some.inj hm
    exact .inl ⟨rfl, hm.symm⟩
   ·cases hm
  ·rename_i e; exact .inr ⟨fun h => e h.symm, hm⟩
 have oldl : ∀ {i : Nat} {m : Blk}, (C.H.set id (.map es'))[i]? = some m → m.live → ∃ m0, C.H[i]? = some m0 ∧ m0.live := by
  intro i m hm hlm
  rcases old hm with ⟨rfl, rfl⟩ | ⟨_, h⟩
  ·exact ⟨_, hid, trivial⟩
  ·exact ⟨m, h, hlm⟩
 refine ⟨?_, ?_, ?_, ?_, ?_, ?_⟩
 ·intro i j m n hi hj hlm hln hb
  obtain ⟨m0, h1, h2⟩ := oldl hi hlm
  obtain ⟨n0, h3, h4⟩ := oldl hj hln
  exact hC.inj i j m0 n0 h1 h3 h2 h4 hb
 ·intro i m hi hlm
  obtain ⟨m0, h1, h2⟩ := oldl hi hlm
  exact hC.notF i m0 h1 h2
 ·intro b hb
  simpa using hC.Flt b hb
 ·intro i kk s es2 he
  rcases old he with ⟨rfl, h⟩ | ⟨_, h⟩
  ·cases h
  ·exact hC.sz i kk s es2 h
 ·intro i kk s es2 he hl2
  rcases old he with ⟨rfl, h⟩ | ⟨e, h⟩
  ·cases h
  ·have hr : RowAt C (C.β i) kk s es2 := hC.row i kk s es2 h hl2
   have : C.β id ≠ C.β i := fun hb => e (hC.inj id i _ _ hid h trivial hl2 hb).symm
   exact hr.ext hE (by simp [Array.getElem?_setIfInBounds_ne this])
 ·intro i es2 he
  rcases old he with ⟨rfl, h⟩ | ⟨e, h⟩
  ·cases h
   refine ⟨me', clock', by simp [hlt], hsz, fun i hi => ?_⟩
   obtain ⟨m, h1, h2, h3⟩ := hel i hi
   exact ⟨m, h1, hE.RP h2, hE.RP h3⟩
  ·have hr : MapAt C (C.β i) es2 := hC.map i es2 h
   have : C.β id ≠ C.β i := fun hb => e (hC.inj id i _ _ hid h trivial trivial hb).symm
   exact hr.ext hE (by simp [Array.getElem?_setIfInBounds_ne this])
theorem snd_mapUpdate {t : TypeId} {x ix y : Operand} (ho : o.op = .mapUpdate t x ix y) (h : aop Γ fr (.mapUpdate t x ix y) C.H next) : Snd P o a C next := by
 simp only [aop] at h
 have hx := hf.ev x
 have hix := hf.ev ix
 have hy := hf.ev y
 split at h
 case h_2 => exact h.elim
 rename_i sh0 by0 kt et z0 hti
 obtain ⟨i, d, hi⟩ := Γ.info hti
 have hd := hi.map rfl; subst hd
 split at h
 case h_2 => exact h.elim
 rename_i shk byk fs ks zk htk
 split at h
 case h_2 => exact h.elim
 rename_i id hxe
 rw [hxe] at hx
 split at h
 case h_2 => exact h.elim
 rename_i hck
 simp only [Bool.and_eq_true] at hck
 obtain ⟨hpk, hpy, hlf⟩ := hck
 split at h
 case h_2 => exact h.elim
 rename_i es hid
 have hK := keyT Γ htk rfl hlf
 have ntp : ∀ {x : AV}, x.pure = true → ∀ vs, x ≠ .tup vs := fun h vs e => by rw [e] at h; simp [AV.pure, AV.pure1] at h
 have hkv := (hix.RA (ntp hpk)).pure hpk
 have hyv := (hy.RA (ntp hpy)).pure hpy
 have hxv : a.eval x = .map (some (C.β id)) := hx.2.2 es hid
 obtain ⟨cs, hcs, hcl, h⟩ := keyAgg_elim h
 rw [force_eq] at h
 rw [hcs] at hkv
 obtain ⟨me, clock, hc, hsz, hel, hit⟩ := map_find hC hf hK hid hkv (fun xs e => by cases e; exact hcl) ⟨_, rfl⟩ h
 have hck := hK.check (P := P) (w0 := C.w) (G := C.G) hcl hkv false C.w
 rcases hit with ⟨i, k, v, m, hi1, he, hn, hm, hmk, hmv, hfk⟩ | ⟨hn, hfk⟩
 ·have hst := run_stays (P := P) he hkv hmk C.w
  refine ⟨_, _, hn, Yield.skip (C' := { C with w := { C.w with heap := C.w.heap.setIfInBounds (C.β id) (.map (me.modify i fun e => { e with key := a.eval ix, val := a.eval y }) clock) }, H := C.H.set id (.map (es.set i (.agg cs, ev fr y))) }) ?_ (mset_ext hC hid _ _) (mset_hrep hC hid (by simp [hsz]) fun j hj => ?_)⟩
  ·simp only [execOp, ho, hxv]
   simp only [Instr.mapUpdate, Sem.run_bind, run_und C.w hi.und, Result.andThen_ok, MapKept.run_getObj_map hc, hck, hfk C.w, hm, Option.map_some, Option.getD_some, hst, MapKept.run_setObj_map _ hc, Sem.run_pure]
  ·simp only [List.length_set] at hj
   obtain ⟨q, h1, h2, h3⟩ := hel j hj
   rw [Array.getElem?_modify]
   by_cases hij : i = j
   ·subst hij
    simp only [if_true, h1, Option.map_some, List.getElem_set_self]
    exact ⟨_, rfl, hkv, hyv⟩
   ·rw [if_neg hij]
    simp only [List.getElem_set_ne hij]
    exact ⟨q, h1, h2, h3⟩
 ·refine ⟨_, _, hn, Yield.skip (C' := { C with w := { C.w with heap := C.w.heap.setIfInBounds (C.β id) (.map (me.push { key := a.eval ix, val := a.eval y, born := clock }) (clock + 1)) }, H := C.H.set id (.map (es ++ [(.agg cs, ev fr y)])) }) ?_ (mset_ext hC hid _ _) (mset_hrep hC hid (by simp [hsz]) fun j hj => ?_)⟩
  ·simp only [execOp, ho, hxv]
   simp only [Instr.mapUpdate, Sem.run_bind, run_und C.w hi.und, Result.andThen_ok, MapKept.run_getObj_map hc, hck, hfk C.w, MapKept.run_setObj_map _ hc, Sem.run_pure]
  ·simp only [List.length_append, List.length_cons, List.length_nil] at hj
   by_cases hlt : j < es.length
   ·obtain ⟨q, h1, h2, h3⟩ := hel j hlt
    rw [Array.getElem?_push, if_neg (by omega)]
    simp only [List.getElem_append_left hlt]
    exact ⟨q, h1, h2, h3⟩
   ·have : j = es.length := by omega
    subst this
    rw [Array.getElem?_push, if_pos hsz.symm]
    simp only [List.getElem_append_right (Nat.le_refl _), Nat.sub_self, List.getElem_cons_zero]
    exact ⟨_, rfl, hkv, hyv⟩
end
end Go.Bv
namespace Go.Bv
open Go
theorem aop_snd {P : Program} (Γ : Tab P) {C : Ctx} (hC : HRep C) {a : Act} {fr : Fr} (hf : FrOk C a fr) {o : Oper} {next : AV → List Blk → Prop} (h : aop Γ fr o.op C.H next) : Snd P o a C next := by
 cases hop : o.op with
 | move x => rw [hop] at h; exact snd_move hC hf (.inl hop) h
 | assign x => rw [hop] at h; exact snd_move hC hf (.inr hop) h
 | pick c x y => rw [hop] at h; exact snd_pick Γ hC hf hop h
 | alloc t => rw [hop] at h; exact snd_alloc Γ hC hf hop h
 | box t x => rw [hop] at h; exact snd_box Γ hC hf hop h
 | build t p => rw [hop] at h; exact snd_build Γ hC hf hop h
 | buildSlice t n p => rw [hop] at h; exact snd_buildSlice Γ hC hf hop h
 | load t x => rw [hop] at h; exact snd_load Γ hC hf hop h
 | store t x y => rw [hop] at h; exact snd_store Γ hC hf hop h
 | nilCheck x => rw [hop] at h; exact snd_nilCheck Γ hC hf hop h
 | binOp op t x y yt => rw [hop] at h; exact snd_binOp Γ hC hf hop h
 | unOp op t x => rw [hop] at h; exact snd_unOp Γ hC hf hop h
 | convert s d x => rw [hop] at h; exact snd_convert Γ hC hf hop h
 | makeFunc f fi ca => rw [hop] at h; exact snd_makeFunc Γ hC hf hop h
 | makeMap t r =>
  rw [hop] at h
  cases r with
  | none => exact snd_makeMap Γ hC hf hop h
  | some r => exact h.elim
 | lookup t x ix ok => rw [hop] at h; exact snd_lookup Γ hC hf hop h
 | mapUpdate t x ix y => rw [hop] at h; exact snd_mapUpdate Γ hC hf hop h
 | makeSlice t l c => rw [hop] at h; exact snd_makeSlice Γ hC hf hop h
 | slice t x lo hi mx => rw [hop] at h; exact snd_slice Γ hC hf hop h
 | fieldAddr t x f => rw [hop] at h; exact snd_fieldAddr Γ hC hf hop h
 | field t x f => rw [hop] at h; exact snd_field Γ hC hf hop h
 | indexAddr t x ix => rw [hop] at h; exact snd_indexAddr Γ hC hf hop h
 | index t x ix => rw [hop] at h; exact snd_index Γ hC hf hop h
 | extract x i => rw [hop] at h; exact snd_extract Γ hC hf hop h
 | call c =>
  rw [hop] at h
  obtain ⟨ce, ca, ct⟩ := c
  cases ce with
  | value f => exact snd_call Γ hC hf hop h
  | invoke r m => exact h.elim
  | builtin b =>
   cases b with
   | len =>
    simp only [aop] at h
    split at h
    ·rename_i t x hct hca
     exact snd_len Γ hC hf hop hct hca (by simp only [aop, hct, hca]; exact h)
    ·exact h.elim
   | cap =>
    simp only [aop] at h
    split at h
    ·rename_i t x hct hca
     exact snd_cap Γ hC hf hop hct hca (by simp only [aop, hct, hca]; exact h)
    ·exact h.elim
   | append =>
    simp only [aop] at h
    split at h
    ·rename_i t0 t1 s x hct hca
     exact snd_append Γ hC hf hop hct hca (by simp only [aop, hct, hca]; exact h)
    ·exact h.elim
   | clear =>
    simp only [aop] at h
    split at h
    ·rename_i t x hct hca
     exact snd_clear Γ hC hf hop hct hca (by simp only [aop, hct, hca]; exact h)
    ·exact h.elim
   | max => exact snd_max Γ hC hf hop h
   | min => exact snd_min Γ hC hf hop h
   | _ => exact h.elim
 | _ => rw [hop] at h; exact h.elim
/-- The state of a walk: the frame, the owned blocks, since the call began (C0). -/
structure St (C0 : Ctx) (n : Nat) (C : Ctx) (a : Act) (fr : Fr) : Prop where
 ext : Ext C0 C
 rep : HRep C
 fr : FrOk C a fr
 size : a.tmps.size = n
 defers : a.defers = []
theorem St.put {C0 C C' : Ctx} {n : Nat} {a : Act} {fr : Fr} (s : St C0 n C a fr) (hE : Ext C C') (hC' : HRep C') {v : Value} {r : AV} (hv : RT C' v r) {d : Option Tmp} (hd : dstOk n d = true) : St C0 n C' (a.put d v) (fr.put d r) := by
 refine ⟨s.ext.trans hE, hC', (s.fr.ext hE).put hv (by rw [s.size]; exact hd), ?_, ?_⟩
 ·cases d <;> simp [Act.put, s.size]
 ·cases d <;> simp [Act.put, s.defers]
theorem St.eval_bool {C0 C : Ctx} {n : Nat} {a : Act} {fr : Fr} (s : St C0 n C a fr) {d : Nat} {b : Bool} (h : fr.get d = .bool b) : a.tmps[d]? = some (.bool b) := by
 have := s.fr d
 rw [h] at this
 have := this.bool
 rw [Array.getD_eq_getD_getElem?] at this
 cases he : a.tmps[d]? with
 | none => rw [he] at this; simp [undef] at this
 | some v => rw [he] at this; simpa using this
theorem aWanted_snd {C0 C : Ctx} {n : Nat} {a : Act} {fr : Fr} (s : St C0 n C a fr) {ops : Array Oper} {o : Oper} {T E : Prop} (h : aWanted ops.toList fr o.guard T E) :
  (Region.wanted o (yielded ops a.tmps) = true ∧ T) ∨ (Region.wanted o (yielded ops a.tmps) = false ∧ E) := by
 unfold aWanted at h
 split at h
 ·rename_i hg
  exact .inl ⟨by simp [Region.wanted, hg], h⟩
 ·rename_i j want hg
  split at h
  ·rename_i o' ho'
   split at h
   ·rename_i d hd
    split at h
    ·rename_i b hb
     rw [Array.getElem?_toList] at ho'
     have hy : yielded ops a.tmps j = some b := by
      simp only [yielded, ho', Option.bind_some, hd, s.eval_bool hb]
     have hw : Region.wanted o (yielded ops a.tmps) = (some b == some want) := by simp [Region.wanted, hg, hy]
     split at h
     ·rcases h.elim with ⟨e, h⟩ | ⟨e, h⟩
      ·exact .inl ⟨by rw [hw, e]; rfl, h⟩
      ·exact .inr ⟨by rw [hw, e]; rfl, h⟩
     ·rcases h.elim with ⟨e, h⟩ | ⟨e, h⟩
      ·exact .inr ⟨by rw [hw, e]; rfl, h⟩
      ·exact .inl ⟨by rw [hw, e]; rfl, h⟩
    ·rename_i vs hb
     split at h
     ·rw [Array.getElem?_toList] at ho'
      have hv := s.fr d
      rw [hb] at hv
      obtain ⟨ws, hws, hsz, _⟩ := hv
      have hy : yielded ops a.tmps j = none := by
       simp only [yielded, ho', Option.bind_some, hd]
       rw [Array.getD_eq_getD_getElem?] at hws
       cases he : a.tmps[d]? with
       | none => rfl
       | some v => rw [he] at hws; simp only [Option.getD_some] at hws; subst hws; rfl
      exact .inr ⟨by simp [Region.wanted, hg, hy], h⟩
     ·exact h.elim
    ·exact h.elim
   ·exact h.elim
  ·exact h.elim
theorem awpOps_snd {P : Program} (Γ : Tab P) {C0 : Ctx} {n : Nat} {ops : Array Oper} {Q : Exit → Act → World → Prop} {K : Fr → List Blk → Prop} (hQ : ∀ C a fr, St C0 n C a fr → K fr C.H → Q .normal a C.w) :
  ∀ (rest : List Oper) (k : Nat), ops.toList.drop k = rest → ∀ (C : Ctx) (a : Act) (fr : Fr), St C0 n C a fr → awpOps Γ n ops.toList rest fr C.H K → wpOps P ops Q (List.range' k rest.length) a C.w
 | [], k, _, C, a, fr, s, h => hQ C a fr s h
 | o :: rest, k, hk, C, a, fr, s, h => by
  have hko : ops[k]? = some o := by
   rw [← Array.getElem?_toList]
   have := congrArg (·[0]?) hk
   simpa using this
  have hk' : ops.toList.drop (k + 1) = rest := by
   have := congrArg (List.drop 1) hk
   simpa using this
  simp only [List.length_cons, List.range'_succ, wpOps, hko]
  simp only [awpOps_cons] at h
  split at h
  ·rename_i hd
   rcases aWanted_snd s h with ⟨hw, h⟩ | ⟨hw, h⟩
   ·rw [hw, if_pos rfl]
    left
    obtain ⟨r, H', hn, hy⟩ := aop_snd Γ s.rep s.fr h
    rw [nrm_eq] at hn
    refine hy _ _ fun v C' hH hE hC' hv => ?_
    subst hH
    exact awpOps_snd Γ hQ rest (k + 1) hk' C' _ _ (s.put hE hC' hv hd) hn
   ·rw [hw]
    simp only [Bool.false_eq_true, if_false]
    exact awpOps_snd Γ hQ rest (k + 1) hk' C _ _ (s.put (Ext.refl C s.rep) s.rep (v := undef) (r := .tup []) ⟨#[], rfl, rfl, fun i h => by simp at h⟩ hd) h
  ·exact h.elim
theorem wp_loop_m {P : Program} {Q : Exit → Act → World → Prop} {c : Code} (J : Nat → Act → World → Prop) (round : ∀ m a w, J m a w → c.wp P (Exit.then (fun a' w' => ∃ m', m' < m ∧ J m' a' w') Q) a w) {m : Nat} {a : Act} {w : World} (h0 : J m a w) : (Code.loop c).wp P Q a w := by
 intro b k cs
 have key : ∀ m a w, J m a w → ∃ e a' w', Q e a' w' ∧ Arrives P (lone (b.at a (.code c :: .inLoop c :: k)) cs w) b k cs e a' w' := by
  intro m
  induction m using Nat.strongRecOn with
  | _ m ih =>
   intro a w hJ
   obtain ⟨e, a₁, w₁, hq, harr⟩ := round m a w hJ b (.inLoop c :: k) cs
   cases e with
   | normal =>
    obtain ⟨m', hlt, hJ'⟩ := hq
    obtain ⟨e₂, a₂, w₂, hq₂, harr₂⟩ := ih m' hlt a₁ w₁ hJ'
    exact ⟨e₂, a₂, w₂, hq₂, .of_steps (Steps.trans harr (.one step_inLoop)) harr₂⟩
   | exit id => exact ⟨_, a₁, w₁, hq, .pass (x := .inLoop c) rfl (fun _ _ => .inl (by simp)) harr⟩
   | goto l => exact ⟨_, a₁, w₁, hq, .pass (x := .inLoop c) rfl (fun _ _ => .inl (by simp)) harr⟩
   | ret => exact ⟨_, a₁, w₁, hq, .pass (x := .inLoop c) rfl (fun _ _ => .inl (by simp)) harr⟩
   | panic ch => exact ⟨_, a₁, w₁, hq, .pass (x := .inLoop c) rfl (fun _ _ => .inl (by simp)) harr⟩
   | outgrown => exact ⟨_, a₁, w₁, hq, .pass (x := .inLoop c) rfl (fun _ _ => .inl (by simp)) harr⟩
 obtain ⟨e, a', w', hq, harr⟩ := key m a w h0
 exact ⟨e, a', w', hq, .of_steps (.one step_loop) harr⟩
def AExit.toExit : AExit → Exit
 | .normal => .normal
 | .exit id => .exit id
 | .ret => .ret
theorem mkFr_get : ∀ (keep : List Nat) (vs : List AV) (t : Nat), (mkFr keep vs).get t = .undef ∨ ∃ i : Nat, keep[i]? = some t ∧ vs[i]? = some ((mkFr keep vs).get t)
 | [], _, t => .inl (by simp [mkFr, Fr.get])
 | _ :: _, [], t => .inl (by simp [mkFr, Fr.get])
 | k :: r, v :: q, t => by
  simp only [mkFr, Fr.get]
  cases hb : Nat.beq k t with
  | true =>
   have := Nat.eq_of_beq_eq_true hb
   subst this
   exact .inr ⟨0, rfl, rfl⟩
  | false =>
   rcases mkFr_get r q t with h | ⟨i, h1, h2⟩
   ·exact .inl (by simpa using h)
   ·exact .inr ⟨i + 1, by simpa using h1, by simpa using h2⟩
theorem BlksLe.get : ∀ {l l' : List Blk}, BlksLe l l' → l'.length = l.length ∧ ∀ (i : Nat) (b' : Blk), l'[i]? = some b' → ∃ b, l[i]? = some b ∧ BlkLe b b'
 | _, _, .nil => ⟨rfl, fun i b h => by simp at h⟩
 | _, _, .cons h hs => by
  obtain ⟨h1, h2⟩ := hs.get
  refine ⟨by simp [h1], fun i b' hb => ?_⟩
  cases i with
  | zero => simp at hb; subst hb; exact ⟨_, rfl, h⟩
  | succ i => simpa using h2 i b' (by simpa using hb)
theorem BlkLe.row_inv {b : Blk} {k : RK} {sh : Sh} {es' : List AV} (h : BlkLe b (.row k sh es')) : ∃ es, b = .row k sh es ∧ LeAs es es' := by
 cases h with
 | same => exact ⟨es', rfl, LeAs.refl _⟩
 | row k sh h => exact ⟨_, rfl, h⟩
theorem BlkLe.live {b b' : Blk} (h : BlkLe b b') (hl : b'.live) : b.live := by
 cases h with
 | same => exact hl
 | row k sh h => exact Blk.live_row h.length hl
 | kill b => exact hl.elim
section
variable {C : Ctx} {H2 : List Blk}
theorem weaken_ext (hC : HRep C) (hle : BlksLe C.H H2) : Ext C { C with H := H2 } where
 F := rfl
 os := rfl
 tape := rfl
 output := rfl
 size := Nat.le_refl _
 len := Nat.le_of_eq hle.get.1.symm
 beta := fun _ _ => rfl
 keep := fun _ _ _ => rfl
 fresh := fun id k hid hk _ => by
  have h1 := (List.getElem?_eq_some_iff.1 hk).1
  have h2 := hle.get.1
  dsimp only at h1
  omega
 rows := fun id k sh es _ he => by
  obtain ⟨b, hb, hl⟩ := hle.get.2 id _ he
  obtain ⟨es0, rfl, hes⟩ := hl.row_inv
  refine ⟨es0, hb, hes.length.symm, fun hlv => ?_⟩
  obtain ⟨c, T, fr, hc, _⟩ := hC.row id k sh es0 hb (hl.live hlv)
  exact ⟨c, T, fr, c, T, fr, hc, hc, rfl⟩
 maps := fun id es _ he => by
  obtain ⟨b, hb, hl⟩ := hle.get.2 id _ he
  cases hl with
  | same => exact ⟨es, hb⟩
 ros := fun id sh es _ he => by
  obtain ⟨b, hb, hl⟩ := hle.get.2 id _ he
  cases hl with
  | same => exact .inl hb
theorem weaken_rep (hC : HRep C) (hle : BlksLe C.H H2) : HRep { C with H := H2 } where
 inj := fun i j k m hk hm hlk hlm hb => by
  obtain ⟨k0, h1, h2⟩ := hle.get.2 i _ hk
  obtain ⟨m0, h3, h4⟩ := hle.get.2 j _ hm
  exact hC.inj i j k0 m0 h1 h3 (h2.live hlk) (h4.live hlm) hb
 notF := fun i k hk hl => by
  obtain ⟨k0, h1, h2⟩ := hle.get.2 i _ hk
  exact hC.notF i k0 h1 (h2.live hl)
 Flt := hC.Flt
 sz := fun id k sh es he => by
  obtain ⟨b, hb, hl⟩ := hle.get.2 id _ he
  obtain ⟨es0, rfl, _⟩ := hl.row_inv
  exact hC.sz id k sh es0 hb
 row := fun id k sh es he hlv => by
  obtain ⟨b, hb, hl⟩ := hle.get.2 id _ he
  have hE := weaken_ext hC hle
  obtain ⟨es0, rfl, hes⟩ := hl.row_inv
  obtain ⟨c, T, fr, hc, h1, h2, h3, h4⟩ := hC.row id k sh es0 hb (hl.live hlv)
  refine ⟨c, T, fr, hc, h1, by rw [hes.length]; exact h2, h3, fun i hi => ?_⟩
  have hi0 : i < es0.length := by rw [← hes.length]; exact hi
  obtain ⟨v, hv, hp, hs, hcell⟩ := h4 i hi0
  exact ⟨v, hE.RA (hv.le (hes.get i hi0 hi)), fun hk => hE.RP (RP.le (hes.get i hi0 hi) (hp hk)), hs, hcell⟩
 map := fun id es he => by
  obtain ⟨b, hb, hl⟩ := hle.get.2 id _ he
  have hE := weaken_ext hC hle
  cases hl with
  | same =>
   obtain ⟨me, cl, hm, hs, h⟩ := hC.map id es hb
   refine ⟨me, cl, hm, hs, fun j hj => ?_⟩
   obtain ⟨m, h1, h2, h3⟩ := h j hj
   exact ⟨m, h1, hE.RP h2, hE.RP h3⟩
end
theorem canon_snd {C0 C : Ctx} {n : Nat} {a : Act} {fr : Fr} (s : St C0 n C a fr) {keep : List Nat} {K : List AV → List Blk → Prop} (h : Canon C0.H.length fr C.H keep K) :
  ∃ vs C', C'.w = C.w ∧ K vs C'.H ∧ St C0 n C' a (mkFr keep vs) := by
 have key : ∀ (S : List Nat) (hS : (nodupB S && allGe C0.H.length S) = true) (vs vs' : List AV) (H' : List Blk), vs.length = (keep.map fr.get).length →
   (∀ (i : Nat) (h : i < (keep.map fr.get).length) (h' : i < vs.length), CvA C0.H.length S C.H (keep.map fr.get)[i] vs[i]) →
   H'.length = (List.range C0.H.length ++ S).length →
   (∀ (i : Nat) (h : i < (List.range C0.H.length ++ S).length) (h' : i < H'.length), ∃ b, C.H[(List.range C0.H.length ++ S)[i]]? = some b ∧ CvBlk C0.H.length S C.H b H'[i]) →
   LeAs vs vs' → ∃ C', C'.w = C.w ∧ True ∧ C'.H = H' ∧ St C0 n C' a (mkFr keep vs') := by
  intro S hS vs vs' H' hvl hvc hHl hHc hle
  obtain ⟨C', hw, rfl, hA, hE, hC'⟩ := anew s.ext s.rep hS hHl hHc
  refine ⟨C', hw, trivial, rfl, hE, hC', fun t => ?_, s.size, s.defers⟩
  rcases mkFr_get keep vs' t with h | ⟨i, h1, h2⟩
  ·rw [h]; trivial
  ·obtain ⟨hi', he⟩ := List.getElem?_eq_some_iff.1 h2
   have hi : i < vs.length := by rw [← hle.length]; exact hi'
   have hik : i < keep.length := (List.getElem?_eq_some_iff.1 h1).1
   have hkt : keep[i] = t := (List.getElem?_eq_some_iff.1 h1).2
   have := hvc i (by simpa using hik) hi
   simp only [List.getElem_map, hkt] at this
   have := hA.cvT s.rep this (s.fr t)
   rw [← he]
   exact this.le (hle.get i hi hi')
 rcases h with ⟨S, hS, h⟩ | ⟨S, vs', hS, h⟩ | ⟨S, vs', H'', hS, h⟩
 ·obtain ⟨vs, hvl, hvc, h⟩ := cvsA_det h
  obtain ⟨H', hHl, hHc, h⟩ := cvH_det h
  obtain ⟨C', hw, h1, h2, s'⟩ := key S hS vs vs H' hvl hvc hHl hHc (LeAs.refl vs)
  exact ⟨vs, C', hw, by rw [h2]; exact h, s'⟩
 ·obtain ⟨vs, hvl, hvc, h⟩ := cvsA_det h
  obtain ⟨H', hHl, hHc, hle, h⟩ := cvH_det h
  obtain ⟨C', hw, h1, h2, s'⟩ := key S hS vs vs' H' hvl hvc hHl hHc hle
  exact ⟨vs', C', hw, by rw [h2]; exact h, s'⟩
 ·obtain ⟨vs, hvl, hvc, h⟩ := cvsA_det h
  obtain ⟨H', hHl, hHc, hle, hbl, h⟩ := cvH_det h
  obtain ⟨C', hw, h1, h2, s'⟩ := key S hS vs vs' H' hvl hvc hHl hHc hle
  rw [← h2] at hbl
  have hE := weaken_ext s'.rep hbl
  exact ⟨vs', { C' with H := H'' }, hw, h, s'.ext.trans hE, weaken_rep s'.rep hbl, fun t => hE.RT (s'.fr t), s'.size, s'.defers⟩
theorem adopt_snd {C0 : Ctx} {n : Nat} {a : Act} : ∀ (ad : List (Nat × Sh)) {C : Ctx} {fr : Fr} {k : Fr → List Blk → Prop}, St C0 n C a fr → adopt ad fr C.H k → ∃ fr' C', C'.w = C.w ∧ k fr' C'.H ∧ St C0 n C' a fr'
 | [], C, fr, k, s, h => ⟨fr, C, rfl, h, s⟩
 | (t, sh) :: r, C, fr, k, s, h => by
  simp only [adopt_cons] at h
  split at h
  ·rename_i hn
   split at h
   ·exact h.elim
   ·rename_i m hm
    have hp : 0 < sh.size := Nat.pos_of_ne_zero hm
    have hv := s.fr t
    rw [hn] at hv
    have hv := hv.nils
    obtain ⟨C2, hw2, hH2, hE2, hC2, hr2⟩ := new_none s.rep (w' := C.w) (fun _ _ => rfl) (Nat.le_refl _) rfl rfl rfl hp none
    rw [← hH2] at h
    obtain ⟨fr', C', h1, h2, h3⟩ := adopt_snd r (C := C2) (fr := (t, .own C.H.length 0 0) :: fr) ⟨s.ext.trans hE2, hC2, fun q => by
     simp only [Fr.get]
     cases hb : Nat.beq t q with
     | true =>
      have := Nat.eq_of_beq_eq_true hb
      subst this
      rw [hv]; exact hr2
     | false => exact hE2.RT (s.fr q), s.size, s.defers⟩ h
    exact ⟨fr', C', by rw [h1, hw2], h2, h3⟩
  ·exact h.elim
theorem adoptB_snd {C0 : Ctx} {n : Nat} {a : Act} {fr : Fr} {H H' : List Blk} (hA : AdoptB H H') : ∀ {C : Ctx}, C.H = H → St C0 n C a fr → ∃ C', C'.w = C.w ∧ C'.H = H' ∧ St C0 n C' a fr := by
 induction hA with
 | nil => intro C e s; exact ⟨C, rfl, e, s⟩
 | @cons H H' shB sh cs id o hid hcs hp h ih =>
  intro C e s
  subst e
  obtain ⟨C2, hw2, hH2, hE2, hC2, hr2⟩ := new_none s.rep (w' := C.w) (fun _ _ => rfl) (Nat.le_refl _) rfl rfl rfl hp none
  have hidl := (List.getElem?_eq_some_iff.1 hid).1
  have hid2 : C2.H[id]? = some (.row .box shB [.agg cs]) := by rw [hH2, List.getElem?_append_left hidl]; exact hid
  have hlive : (Blk.row .box shB [.agg cs]).live := trivial
  obtain ⟨c, T, fz, hc, hfz, hsz, hone, hel⟩ := hC2.row id .box shB [.agg cs] hid2 hlive
  have hw : World.write C2.w (C2.β id) c T fz = C2.w := by
   unfold World.write
   have : C2.w.heap.setIfInBounds (C2.β id) (.cells c T fz) = C2.w.heap := by
    apply Array.ext_getElem?
    intro q
    rw [Array.getElem?_setIfInBounds]
    split
    ·rename_i e; subst e
     rw [if_pos (Array.getElem?_eq_some_iff.1 hc).1, hc]
    ·rfl
   rw [this]
  have hE3 := set_ext0 (es' := [.agg (cs.set o (.own C.H.length 0 0))]) (T := T) (fr := fz) hC2 hid2 hlive rfl hc rfl
  have hrow : RowAt { C2 with w := World.write C2.w (C2.β id) c T fz, H := C2.H.set id (.row .box shB [.agg (cs.set o (.own C.H.length 0 0))]) } (C2.β id) .box shB [.agg (cs.set o (.own C.H.length 0 0))] := by
   refine ⟨c, T, fz, by rw [hw]; exact hc, hfz, hsz, hone, fun i hi => ?_⟩
   obtain ⟨v, h1, _, h3, h4⟩ := hel 0 (by simp)
   simp only [List.length_cons, List.length_nil] at hi
   have : i = 0 := by omega
   subst this
   refine ⟨v, ?_, fun hk => absurd rfl hk, h3, h4⟩
   obtain ⟨vs, rfl, hvs, hvc, hvo⟩ := h1
   refine ⟨vs, rfl, by simpa using hvs, fun i hi => ?_, hvo⟩
   have hi' : i < cs.length := by simpa using hi
   by_cases hio : i = o
   ·subst hio
    simp only [List.getElem_set_self]
    have h5 := hvc i hi'
    have h6 : cs[i] = .nils := (List.getElem?_eq_some_iff.1 hcs).2
    rw [h6] at h5
    have h7 : RT C2 (vs.getD i undef) .nils := h5
    rw [h7.nils]
    exact hE3.R1 (a := .own C.H.length 0 0) hr2
   ·simp only [List.getElem_set_ne (fun e => hio e.symm)]
    exact hE3.R1 (hvc i hi')
  have hC3 := set_hrep0 (es' := [.agg (cs.set o (.own C.H.length 0 0))]) (T := T) (fr := fz) hC2 hid2 hlive rfl hc rfl hrow
  rw [hw] at hE3 hC3
  have hH3 : C2.H.set id (.row .box shB [.agg (cs.set o (.own C.H.length 0 0))]) = C.H.set id (.row .box shB [.agg (cs.set o (.own C.H.length 0 0))]) ++ [.row .vrow sh []] := by
   rw [hH2, List.set_append_left _ _ hidl]
  obtain ⟨C', q1, q2, q3⟩ := ih (C := { C2 with H := C2.H.set id (.row .box shB [.agg (cs.set o (.own C.H.length 0 0))]) }) hH3
   ⟨(s.ext.trans hE2).trans hE3, hC3, fun q => hE3.RT (hE2.RT (s.fr q)), s.size, s.defers⟩
  exact ⟨C', by rw [q1]; exact hw2, q2, q3⟩
/-- How the regions whose order is open are walked: soundly. -/
def DrSnd (P : Program) (n : Nat) (dr : List Oper → Fr → List Blk → (Fr → List Blk → Prop) → Prop) : Prop :=
 ∀ (id : Nat) (ops : Array Oper) (C0 C : Ctx) (a : Act) (fr : Fr) (K : Fr → List Blk → Prop) (Q : Exit → Act → World → Prop), St C0 n C a fr → dr ops.toList fr C.H K → (∀ C a fr, St C0 n C a fr → K fr C.H → Q .normal a C.w) → (Code.region id ops true).wp P Q a C.w
theorem awp_snd {P : Program} (Γ : Tab P) {n : Nat} {dr : List Oper → Fr → List Blk → (Fr → List Blk → Prop) → Prop} (hdr : DrSnd P n dr) {C0 : Ctx} : ∀ (c : Code) (AQ : APost) (Q : Exit → Act → World → Prop) (C : Ctx) (a : Act) (fr : Fr),
  (∀ e C a fr, St C0 n C a fr → AQ e fr C.H → Q e.toExit a C.w) → St C0 n C a fr → awp Γ n C0.H.length dr c AQ fr C.H → c.wp P Q a C.w := by
 intro c
 induction c with
 | skip => intro AQ Q C a fr hQ s h; exact wp_skip (hQ .normal C a fr s h)
 | region id ops draw =>
  intro AQ Q C a fr hQ s h
  cases draw with
  | false =>
   refine wp_region ?_
   rw [List.range_eq_range']
   exact awpOps_snd Γ (fun C a fr s h => hQ .normal C a fr s h) ops.toList 0 rfl C a fr s h
  | true => exact hdr id ops C0 C a fr _ Q s h (fun C a fr s h => hQ .normal C a fr s h)
 | seq x y ihx ihy =>
  intro AQ Q C a fr hQ s h
  refine wp_seq (ihx _ _ C a fr (fun e C a fr s h => ?_) s h)
  cases e with
  | normal => exact ihy AQ Q C a fr hQ s h
  | exit id => exact hQ (.exit id) C a fr s h
  | ret => exact hQ .ret C a fr s h
 | cond c x y ihx ihy =>
  intro AQ Q C a fr hQ s h
  simp only [awp_cond] at h
  split at h
  ·rename_i q hq
   have hc := s.fr.ev c
   rw [hq] at hc
   rcases h.elim with ⟨rfl, h⟩ | ⟨rfl, h⟩
   ·exact wp_cond_true hc.bool (ihx AQ Q C a fr hQ s h)
   ·exact wp_cond_false hc.bool (ihy AQ Q C a fr hQ s h)
  ·exact h.elim
 | block id x ih =>
  intro AQ Q C a fr hQ s h
  refine wp_block (ih _ _ C a fr (fun e C a fr s h => ?_) s h)
  cases e with
  | normal => exact hQ .normal C a fr s h
  | exit j =>
   simp only [AExit.toExit, Exit.inBlock]
   dsimp only at h
   split at h
   ·rename_i hb
    rw [if_pos (Nat.eq_of_beq_eq_true hb)]
    exact hQ .normal C a fr s h
   ·rename_i hb
    rw [if_neg (fun e => by subst e; simp at hb)]
    exact hQ (.exit j) C a fr s h
  | ret => exact hQ .ret C a fr s h
 | loop x ih =>
  intro AQ Q C a fr hQ s h
  rcases h with ⟨ad, keep, Inv, hk, h0, hr⟩ | ⟨ad, keep, keepX, Inv, hk, h0, hr⟩ | ⟨hb, ad, keep, Inv, hk, h0, hr⟩ | ⟨hb, ad, keep, keepX, Inv, hk, h0, hr⟩
  rotate_right 2
  ·obtain ⟨CB, hwB, hHB, sB⟩ := adoptB_snd hb rfl s
   rw [← hHB] at h0
   obtain ⟨fr1, C1, hw1, h0, s1⟩ := adopt_snd ad sB h0
   obtain ⟨vs, C2, hw2, ⟨m, h0⟩, s2⟩ := canon_snd s1 h0
   have hw : C2.w = C.w := by rw [hw2, hw1, hwB]
   rw [← hw]
   refine wp_loop_m (fun m a w => ∃ C vs, C.w = w ∧ St C0 n C a (mkFr keep vs) ∧ Inv m vs C.H) (fun m a w hJ => ?_) (m := m) ⟨C2, vs, rfl, s2, h0⟩
   obtain ⟨C, vs, rfl, s, hI⟩ := hJ
   refine ih _ _ C a _ (fun e C a fr s h => ?_) s (hr m vs C.H hI)
   cases e with
   | normal =>
    obtain ⟨vs', C', hw', ⟨m', hlt, hI'⟩, s'⟩ := canon_snd s h
    exact ⟨m', hlt, C', vs', hw', s', hI'⟩
   | exit id => exact hQ (.exit id) C a fr s h
   | ret => exact hQ .ret C a fr s h
  ·obtain ⟨CB, hwB, hHB, sB⟩ := adoptB_snd hb rfl s
   rw [← hHB] at h0
   obtain ⟨fr1, C1, hw1, h0, s1⟩ := adopt_snd ad sB h0
   obtain ⟨vs, C2, hw2, ⟨m, h0⟩, s2⟩ := canon_snd s1 h0
   have hw : C2.w = C.w := by rw [hw2, hw1, hwB]
   rw [← hw]
   refine wp_loop_m (fun m a w => ∃ C vs, C.w = w ∧ St C0 n C a (mkFr keep vs) ∧ Inv m vs C.H) (fun m a w hJ => ?_) (m := m) ⟨C2, vs, rfl, s2, h0⟩
   obtain ⟨C, vs, rfl, s, hI⟩ := hJ
   refine ih _ _ C a _ (fun e C a fr s h => ?_) s (hr m vs C.H hI)
   cases e with
   | normal =>
    obtain ⟨vs', C', hw', ⟨m', hlt, hI'⟩, s'⟩ := canon_snd s h
    exact ⟨m', hlt, C', vs', hw', s', hI'⟩
   | exit id =>
     obtain ⟨vs', C', hw', hI', s'⟩ := canon_snd s h
     have := hQ (.exit id) C' a _ s' hI'
     rw [hw'] at this; exact this
   | ret => exact hQ .ret C a fr s h
  ·obtain ⟨fr1, C1, hw1, h0, s1⟩ := adopt_snd ad s h0
   obtain ⟨vs, C2, hw2, ⟨m, h0⟩, s2⟩ := canon_snd s1 h0
   have hw : C2.w = C.w := by rw [hw2, hw1]
   rw [← hw]
   refine wp_loop_m (fun m a w => ∃ C vs, C.w = w ∧ St C0 n C a (mkFr keep vs) ∧ Inv m vs C.H) (fun m a w hJ => ?_) (m := m) ⟨C2, vs, rfl, s2, h0⟩
   obtain ⟨C, vs, rfl, s, hI⟩ := hJ
   refine ih _ _ C a _ (fun e C a fr s h => ?_) s (hr m vs C.H hI)
   cases e with
   | normal =>
    obtain ⟨vs', C', hw', ⟨m', hlt, hI'⟩, s'⟩ := canon_snd s h
    exact ⟨m', hlt, C', vs', hw', s', hI'⟩
   | exit id => exact hQ (.exit id) C a fr s h
   | ret => exact hQ .ret C a fr s h
  ·obtain ⟨fr1, C1, hw1, h0, s1⟩ := adopt_snd ad s h0
   obtain ⟨vs, C2, hw2, ⟨m, h0⟩, s2⟩ := canon_snd s1 h0
   have hw : C2.w = C.w := by rw [hw2, hw1]
   rw [← hw]
   refine wp_loop_m (fun m a w => ∃ C vs, C.w = w ∧ St C0 n C a (mkFr keep vs) ∧ Inv m vs C.H) (fun m a w hJ => ?_) (m := m) ⟨C2, vs, rfl, s2, h0⟩
   obtain ⟨C, vs, rfl, s, hI⟩ := hJ
   refine ih _ _ C a _ (fun e C a fr s h => ?_) s (hr m vs C.H hI)
   cases e with
   | normal =>
    obtain ⟨vs', C', hw', ⟨m', hlt, hI'⟩, s'⟩ := canon_snd s h
    exact ⟨m', hlt, C', vs', hw', s', hI'⟩
   | exit id =>
     obtain ⟨vs', C', hw', hI', s'⟩ := canon_snd s h
     have := hQ (.exit id) C' a _ s' hI'
     rw [hw'] at this; exact this
   | ret => exact hQ .ret C a fr s h
 | exit id => intro AQ Q C a fr hQ s h; exact wp_exit (hQ (.exit id) C a fr s h)
 | ret => intro AQ Q C a fr hQ s h; exact wp_ret (hQ .ret C a fr s h)
 | label l => intro AQ Q C a fr hQ s h; exact wp_label (hQ .normal C a fr s h)
 | _ => intro AQ Q C a fr hQ s h; exact h.elim
theorem ares_snd {P : Program} (Γ : Tab P) {C0 C : Ctx} {n : Nat} {a : Act} {fr : Fr} (s : St C0 n C a fr) : ∀ (rs : List ResultVar) (k : List AV → Prop), ares Γ fr C.H rs k →
  ∃ as vs, k as ∧ vs.length = as.length ∧ as.length = rs.length ∧ (∀ (i : Nat) (h : i < as.length) (h' : i < vs.length), RT C vs[i] as[i]) ∧
   (rs.mapM fun | .tmp t => pure (a.tmps.getD t undef) | .cell x t => do loadVar t (← asAddr (a.tmps.getD x undef)) : Sem (List Value)).run P C.w = .ok vs C.w
 | [], k, h => ⟨[], [], h, rfl, rfl, fun i h => by simp at h, by simp⟩
 | .tmp t :: r, k, h => by
  simp only [ares_tmp] at h
  rw [force_eq] at h
  obtain ⟨as, vs, hk, h1, h2, h3, h4⟩ := ares_snd Γ s r _ h
  refine ⟨_, a.tmps.getD t undef :: vs, hk, by simp [h1], by simp [h2], fun i hi hi' => ?_, ?_⟩
  ·cases i with
   | zero => exact s.fr t
   | succ i => exact h3 i (by simpa using hi) (by simpa using hi')
  ·simp only [List.mapM_cons, Sem.run_bind, Sem.run_pure, Result.andThen_ok, h4]
 | .cell p t :: r, k, h => by
  simp only [ares_cell] at h
  split at h
  ·rename_i sh by' kd ze hti
   obtain ⟨i, d, hi⟩ := Γ.info hti
   split at h
   ·rename_i id j o hp
    split at h
    ·rename_i s' x hid
     split at h
     ·have hx := s.fr p
      rw [hp] at hx
      have hv := hx.ptr hid
      obtain ⟨c, T, fz, hc, _, hle, _, hel⟩ := s.rep.row id .box s' [x] hid trivial
      obtain ⟨v, hv', _, hs, hcell⟩ := hel 0 (by simp)
      obtain ⟨q, u, hn, hu, hrun⟩ := loadPart_snd (P := P) hi h hv' hs (b := C.β id) (o := 0 * s'.size) (fun q hq => by
       simp only [World.cell?, hc, Option.isSome_none, Bool.false_eq_true, if_false]; exact hcell q hq)
      obtain ⟨as, vs, hk, h1, h2, h3, h4⟩ := ares_snd Γ s r _ hn
      refine ⟨_, u :: vs, hk, by simp [h1], by simp [h2], fun i hi hi' => ?_, ?_⟩
      ·cases i with
       | zero => simp only [List.getElem_cons_zero]; cases q <;> first | exact hu | exact hu.elim
       | succ i => exact h3 i (by simpa using hi) (by simpa using hi')
      ·have has : (asAddr (a.tmps.getD p undef)).run P C.w = .ok ⟨C.β id, 0 * s'.size + o, none⟩ C.w := by rw [hv]; rfl
       simp only [List.mapM_cons, Sem.run_bind, has, Sem.run_pure, Result.andThen_ok, hrun, h4]
     ·exact h.elim
    ·exact h.elim
   ·exact h.elim
  ·exact h.elim
/-- A body that keeps its promise makes a contract. -/
theorem ACalls_of {P : Program} (Γ : Tab P) {f : FuncId} {fn : Func} {code : Code} {dr : List Oper → Fr → List Blk → (Fr → List Blk → Prop) → Prop} (hdr : DrSnd P fn.ntmps dr) {args : List AV} {H : List Blk} {r : AV} {H' : List Blk}
  (hf : P.funcs[f]? = some fn) (hb : fn.body = some code) (hname : (fn.name == "runtime.NumGoroutine") = false) (hn : args.length ≤ fn.ntmps) (ha : args.all AV.noTup = true)
  (h : awp Γ fn.ntmps H.length dr code (bodyQ Γ H.length fn.results.toList r H') (argFr 0 args) H) : ACalls P f args H r H' := by
 refine ⟨⟨fn, hf, by rw [hb]; rfl, hname⟩, fun C hH hC cargs hsz hargs => ?_⟩
 subst hH
 rw [List.all_eq_true] at ha
 refine calls_of_wp hf hb (awp_snd Γ hdr (C0 := C) code _ _ C _ (argFr 0 args) (fun e C1 a fr s h => ?_) ?_ h)
 ·have key0 : ∀ (C1 : Ctx) (fr : Fr), St C fn.ntmps C1 a fr → (∃ S, (nodupB S && allGe C.H.length S) = true ∧ ares Γ fr C1.H fn.results.toList fun as => cvsA C.H.length S C1.H as fun vs => cvH C.H.length S C1.H (List.range C.H.length ++ S) fun H'' => LeA (mkRes vs) r ∧ H' = H'') → a.defers = [] ∧ ∃ v, (results fn a.tmps).run P C1.w = .ok v C1.w ∧ (∃ v' C', Ending.returned v = .returned v' ∧ C'.w = C1.w ∧ C'.H = H' ∧ Ext C C' ∧ HRep C' ∧ RT C' v' r) := by
   intro C1 fr s h
   obtain ⟨S, hS, h⟩ := h
   obtain ⟨as, vs, h, h1, h2, h3, h4⟩ := ares_snd Γ s _ _ h
   obtain ⟨as', hvl, hvc, h⟩ := cvsA_det h
   obtain ⟨H'', hHl, hHc, hle, rfl⟩ := cvH_det h
   obtain ⟨C', hw, hH2, hA, hE, hC'⟩ := anew s.ext s.rep hS hHl hHc
   have hres : (results fn a.tmps).run P C1.w = .ok (if h : vs.toArray.size = 1 then vs.toArray[0] else .tuple vs.toArray) C1.w := by
    unfold results
    rw [Sem.run_bind, Array.mapM_eq_mapM_toList, Sem.run_map]
    refine (congrArg (fun z : Result (List Value) => (z.andThen fun a w' => Result.ok a.toArray w').andThen fun a w' => Sem.run P (pure (if h : a.size = 1 then a[0] else Value.tuple a)) w') h4).trans ?_
    rfl
   refine ⟨s.defers, _, hres, _, C', rfl, hw, hH2, hE, hC', RT.le hle ?_⟩
   have hrt : ∀ (i : Nat) (hi : i < as'.length) (hi' : i < vs.length), RA C' vs[i] as'[i] := fun i hi hi' => by
    have := hvc i (by omega) hi
    exact hA.cvA s.rep this ((h3 i (by omega) hi').RA this.nt.1)
   by_cases hone : vs.length = 1
   ·have hal : as'.length = 1 := by omega
    obtain ⟨x, rfl⟩ := List.length_eq_one_iff.1 hal
    rw [dif_pos (by simpa using hone)]
    have := hrt 0 (by simp) (by omega)
    have hnt := (hvc 0 (by omega) (by simp)).nt.2
    simp only [List.getElem_cons_zero] at this hnt
    simp only [mkRes, List.getElem_toArray]
    cases x <;> first | exact this | exact absurd rfl (hnt _)
   ·rw [dif_neg (by simpa using hone)]
    have hm : mkRes as' = .tup as' := by
     match as', hvl with
     | [], _ => rfl
     | [x], hvl => simp at hvl; omega
     | _ :: _ :: _, _ => rfl
    rw [hm]
    refine ⟨vs.toArray, rfl, by simp; omega, fun i hi => ?_⟩
    have hi' : i < vs.length := by omega
    have := hrt i hi hi'
    simpa [Array.getD_eq_getD_getElem?, hi'] using this
  have key : NRet Γ C.H.length fn.results.toList r H' fr C1.H → a.defers = [] ∧ ∃ v, (results fn a.tmps).run P C1.w = .ok v C1.w ∧ (∃ v' C', Ending.returned v = .returned v' ∧ C'.w = C1.w ∧ C'.H = H' ∧ Ext C C' ∧ HRep C' ∧ RT C' v' r) := by
   intro h
   rcases h with ⟨S, hS, h⟩ | ⟨ad, S, hS, h⟩
   ·exact key0 C1 fr s ⟨S, hS, h⟩
   ·obtain ⟨fr', C', hw, h, s'⟩ := adopt_snd ad s h
    have := key0 C' fr' s' ⟨S, hS, h⟩
    rw [hw] at this; exact this
  cases e with
  | normal => exact key h
  | exit id => exact h.elim
  | ret => exact key h
 ·have hget : ∀ (i : Nat) (l : List AV) (t : Nat), (argFr i l).get t = .undef ∨ (i ≤ t ∧ l[t - i]? = some ((argFr i l).get t)) := by
   intro i l
   induction l generalizing i with
   | nil => intro t; exact .inl rfl
   | cons x r ih =>
    intro t
    simp only [argFr, Fr.get]
    cases hb : Nat.beq i t with
    | true =>
     have := Nat.eq_of_beq_eq_true hb
     subst this
     exact .inr ⟨Nat.le_refl _, by simp⟩
    | false =>
     rcases ih (i + 1) t with h | ⟨h1, h2⟩
     ·exact .inl (by simpa using h)
     ·refine .inr ⟨by omega, ?_⟩
      have e : t - i = (t - (i + 1)) + 1 := by omega
      rw [e]; simpa using h2
  refine ⟨Ext.refl C hC, hC, fun t => ?_, by simp; omega, rfl⟩
  rcases hget 0 args t with h | ⟨_, h⟩
  ·rw [h]; trivial
  ·obtain ⟨hlt, he⟩ := List.getElem?_eq_some_iff.1 h
   have := hargs t hlt
   have he : args[t] = (argFr 0 args).get t := he
   rw [he] at this
   have hnt := ha _ (List.getElem_mem (show t < args.length from hlt))
   rw [he] at hnt
   have hv : (cargs ++ Array.replicate (fn.ntmps - cargs.size) undef).getD t undef = cargs.getD t undef := by
    simp only [Array.getD_eq_getD_getElem?]
    rw [Array.getElem?_append_left (by have : t < args.length := hlt; omega)]
   rw [hv]
   generalize (argFr 0 args).get t = x at this hnt
   cases x <;> first | exact this | (simp [AV.noTup] at hnt)
end Go.Bv
namespace Go.Bv
open Go
/-- A leaf, with the owned blocks' numbers moved. -/
def AV.sh1 (n : Nat) : AV → AV
 | .own id off len => .own (id + n) off len
 | .ptr id i o => .ptr (id + n) i o
 | .map id => .map (id + n)
 | a => a
def AV.shR (n : Nat) : AV → AV
 | .fn f caps => .fn f (caps.map (AV.sh1 n))
 | a => a.sh1 n
def AV.shA (n : Nat) : AV → AV
 | .agg cs => .agg (cs.map (AV.shR n))
 | a => a.shR n
def AV.shT (n : Nat) : AV → AV
 | .tup vs => .tup (vs.map (AV.shA n))
 | a => a.shA n
def Blk.shift (n : Nat) : Blk → Blk
 | .row .box sh es => .row .box sh (es.map (AV.shA n))
 | b => b
theorem Blk.shift_live {n : Nat} {b : Blk} : (b.shift n).live ↔ b.live := by
 cases b with
 | dead => exact Iff.rfl
 | ro sh es => exact Iff.rfl
 | map es => exact Iff.rfl
 | row k sh es => cases k <;> exact Iff.rfl
theorem Blk.shift_row {n : Nat} {b : Blk} {k : RK} {sh : Sh} {es : List AV} (h : b.shift n = .row k sh es) : ∃ es0, b = .row k sh es0 ∧ es.length = es0.length ∧ ((k = .box ∧ es = es0.map (AV.shA n)) ∨ (k ≠ .box ∧ es = es0)) := by
 cases b with
 | dead => simp [Blk.shift] at h
 | ro sh es => simp [Blk.shift] at h
 | map es => simp [Blk.shift] at h
 | row k' sh' es' =>
  cases k' <;> simp only [Blk.shift, Blk.row.injEq] at h <;> obtain ⟨rfl, rfl, rfl⟩ := h
  ·exact ⟨_, rfl, by simp, .inl ⟨rfl, rfl⟩⟩
  ·exact ⟨_, rfl, rfl, .inr ⟨by simp, rfl⟩⟩
  ·exact ⟨_, rfl, rfl, .inr ⟨by simp, rfl⟩⟩
theorem Blk.shift_map {n : Nat} {b : Blk} {es : List (AV × AV)} (h : b.shift n = .map es) : b = .map es := by
 cases b with
 | dead => simp [Blk.shift] at h
 | ro sh es => simp [Blk.shift] at h
 | map es => exact h
 | row k' sh' es' => cases k' <;> simp [Blk.shift] at h
theorem Blk.shift_ro {n : Nat} {b : Blk} {sh : Sh} {es : List AV} (h : b.shift n = .ro sh es) : b = .ro sh es := by
 cases b with
 | dead => simp [Blk.shift] at h
 | ro sh es => exact h
 | map es => simp [Blk.shift] at h
 | row k' sh' es' => cases k' <;> simp [Blk.shift] at h
/-- Can it be read with nothing owned? -/
def AV.low1 : AV → AV
 | .own _ _ _ => .undef
 | .ptr _ _ _ => .undef
 | .map _ => .undef
 | a => a
def AV.lowR : AV → AV
 | .fn f caps => .fn f (caps.map AV.low1)
 | a => a.low1
def AV.lowA : AV → AV
 | .agg cs => .agg (cs.map AV.lowR)
 | a => a.lowR
def AV.low : AV → AV
 | .tup vs => .tup (vs.map AV.lowA)
 | a => a.lowA
/-- What is owned is out of sight. -/
def Ctx.shut (C : Ctx) : Ctx := { w := C.w, F := fun b => C.F b ∨ C.owned b, β := C.β, H := [] }
/-- What a call with nothing owned left, beside what was owned. -/
def Ctx.join (C D : Ctx) : Ctx := { w := D.w, F := C.F, β := fun id => if id < C.H.length then C.β id else D.β (id - C.H.length), H := C.H ++ D.H.map (Blk.shift C.H.length) }
theorem shut_rep {C : Ctx} (hC : HRep C) : HRep C.shut where
 inj := fun i j k m h => by simp [Ctx.shut] at h
 notF := fun i k h => by simp [Ctx.shut] at h
 Flt := fun b h => by
  rcases h with h | ⟨id, k, hk, hl, rfl⟩
  ·exact hC.Flt b h
  ·exact hC.lt hk hl
 sz := fun i k sh es h => by simp [Ctx.shut] at h
 row := fun i k sh es h => by simp [Ctx.shut] at h
 map := fun i es h => by simp [Ctx.shut] at h
theorem shut_G {C : Ctx} {b : Nat} (h : C.G b) : C.shut.G b := by
 obtain ⟨h1, h2, h3⟩ := h
 refine ⟨h1, fun h => h.elim h2 h3, fun ⟨id, k, hk, _⟩ => by simp [Ctx.shut] at hk⟩
section
variable {C C1 : Ctx}
theorem low_RP (hw : C1.w = C.w) (hG : ∀ b, C.G b → C1.G b) {v : Value} {a : AV} (r : RP C.w C.G v a) : RP C1.w C1.G v a := r.mono fun b hb => ⟨hG b hb, by rw [hw]⟩
theorem low_RL (hw : C1.w = C.w) (hG : ∀ b, C.G b → C1.G b) {v : Value} {a : AV} (r : RL C v a) : RL C1 v a.low1 := by
 cases a <;> simp only [AV.low1] <;> first | exact low_RP hw hG r | trivial | exact r
theorem low_R1 (hw : C1.w = C.w) (hG : ∀ b, C.G b → C1.G b) {v : Value} {a : AV} (r : R1 C v a) : R1 C1 v a.lowR := by
 cases a with
 | fn f caps =>
  obtain ⟨cv, hv, hsz, hc⟩ := r
  exact ⟨cv, hv, by simpa [AV.lowR] using hsz, fun i hi => by
   simp only [List.getElem_map]
   exact low_RL hw hG (hc i (by simpa using hi))⟩
 | _ => simp only [AV.lowR, AV.low1, R1] at r ⊢; first | exact low_RL hw hG r | trivial
theorem low_RA (hw : C1.w = C.w) (hG : ∀ b, C.G b → C1.G b) {v : Value} {a : AV} (r : RA C v a) : RA C1 v a.lowA := by
 cases a with
 | agg cs =>
  obtain ⟨cv, hv, hsz, hc, ho⟩ := r
  exact ⟨cv, hv, by simpa using hsz, fun i hi => by
   simp only [List.getElem_map]
   exact low_R1 hw hG (hc i (by simpa using hi)), ho⟩
 | _ => simp only [AV.lowA, RA] at r ⊢; exact low_R1 hw hG r
theorem low_RT (hw : C1.w = C.w) (hG : ∀ b, C.G b → C1.G b) {v : Value} {a : AV} (r : RT C v a) : RT C1 v a.low := by
 cases a with
 | tup cs =>
  obtain ⟨cv, hv, hsz, hc⟩ := r
  exact ⟨cv, hv, by simpa using hsz, fun i hi => by
   simp only [List.getElem_map]
   exact low_RA hw hG (hc i (by simpa using hi))⟩
 | _ => simp only [AV.low, RT] at r ⊢; exact low_RA hw hG r
end
theorem shut_RA {C : Ctx} {v : Value} {a : AV} (r : RA C v a) : RA C.shut v a.lowA := low_RA (C := C) (C1 := C.shut) rfl (fun _ h => shut_G h) r
theorem shut_RT {C : Ctx} {v : Value} {a : AV} (r : RT C v a) : RT C.shut v a.low := low_RT (C := C) (C1 := C.shut) rfl (fun _ h => shut_G h) r
section
variable {C D : Ctx}
theorem shut_keep (hE : Ext C.shut D) {b : Nat} (hb : b < C.w.heap.size) : D.w.heap[b]? = C.w.heap[b]? := hE.keep b hb (fun ⟨id, k, hk, _⟩ => by simp [Ctx.shut] at hk)
theorem shut_fresh (hE : Ext C.shut D) {id : Nat} {k : Blk} (hk : D.H[id]? = some k) (hl : k.live) : C.w.heap.size ≤ D.β id := by
 rcases hE.fresh id k (by simp [Ctx.shut]) hk hl with h | ⟨id, k, hk, _⟩
 ·exact h
 ·simp [Ctx.shut] at hk
theorem join_old {id : Nat} (h : id < C.H.length) : (C.join D).H[id]? = C.H[id]? ∧ (C.join D).β id = C.β id := by
 simp only [Ctx.join, List.getElem?_append_left h, if_pos h, and_self]
theorem join_new (id : Nat) : (C.join D).H[id + C.H.length]? = (D.H[id]?).map (Blk.shift C.H.length) ∧ (C.join D).β (id + C.H.length) = D.β id := by
 simp only [Ctx.join]
 rw [List.getElem?_append_right (by omega), if_neg (by omega)]
 simp
theorem join_get {id : Nat} {m : Blk} (h : (C.join D).H[id]? = some m) : (id < C.H.length ∧ C.H[id]? = some m) ∨ ∃ j m0, id = j + C.H.length ∧ D.H[j]? = some m0 ∧ m = m0.shift C.H.length := by
 rcases Nat.lt_or_ge id C.H.length with hid | hid
 ·rw [(join_old hid).1] at h; exact .inl ⟨hid, h⟩
 ·obtain ⟨j, rfl⟩ : ∃ j, id = j + C.H.length := ⟨id - C.H.length, by omega⟩
  rw [(join_new j).1] at h
  cases hj : D.H[j]? with
  | none => rw [hj] at h; simp at h
  | some m0 => rw [hj] at h; simp at h; exact .inr ⟨j, m0, rfl, hj, h.symm⟩
theorem join_owned (hC : HRep C) (hE : Ext C.shut D) {b : Nat} (h : (C.join D).owned b) : D.F b ∨ D.owned b := by
 obtain ⟨id, m, hm, hl, rfl⟩ := h
 rcases join_get hm with ⟨hid, hm⟩ | ⟨j, m0, rfl, hj, rfl⟩
 ·rw [(join_old hid).2, hE.F]; exact .inl (.inr ⟨id, m, hm, hl, rfl⟩)
 ·rw [(join_new j).2]; exact .inr ⟨j, m0, hj, Blk.shift_live.1 hl, rfl⟩
theorem join_G (hC : HRep C) (hE : Ext C.shut D) {b : Nat} (h : D.G b) : (C.join D).G b := by
 obtain ⟨h1, h2, h3⟩ := h
 refine ⟨h1, fun hf => h2 (by rw [hE.F]; exact .inl hf), fun ho => (join_owned hC hE ho).elim h2 h3⟩
theorem join_RP (hC : HRep C) (hE : Ext C.shut D) {v : Value} {a : AV} (r : RP D.w D.G v a) : RP (C.join D).w (C.join D).G v a := r.mono fun b hb => ⟨join_G hC hE hb, rfl⟩
theorem join_RL (hC : HRep C) (hE : Ext C.shut D) {v : Value} {a : AV} (r : RL D v a) : RL (C.join D) v (a.sh1 C.H.length) := by
 have hlen : (C.join D).H.length = D.H.length + C.H.length := by simp [Ctx.join]; omega
 cases a with
 | own id off len =>
  obtain ⟨h1, h2, h3, h4, h5⟩ := r
  refine ⟨h1, by omega, fun k sh es he => ?_, fun k sh es he => ?_, fun sh es he => ?_⟩
  rotate_left
  ·rw [(join_new id).1] at he
   cases hj : D.H[id]? with
   | none => rw [hj] at he; simp at he
   | some m0 =>
    rw [hj] at he
    obtain ⟨es0, rfl, hl, _⟩ := Blk.shift_row (Option.some.inj he)
    have := h4 k sh es0 hj
    omega
  ·rw [(join_new id).1] at he
   cases hj : D.H[id]? with
   | none => rw [hj] at he; simp at he
   | some m0 =>
    rw [hj] at he
    have := Blk.shift_ro (Option.some.inj he)
    subst this
    obtain ⟨g1, g2⟩ := h5 sh es hj
    exact ⟨g1, join_RP hC hE g2⟩
  rw [(join_new id).1] at he
  cases hj : D.H[id]? with
  | none => rw [hj] at he; simp at he
  | some m0 =>
   rw [hj] at he
   obtain ⟨es0, rfl, hl, _⟩ := Blk.shift_row (Option.some.inj he)
   obtain ⟨hn, hy⟩ := h3 k sh es0 hj
   refine ⟨fun hd => hn fun hh => hd (Blk.live_row hl.symm hh), fun hh => ?_⟩
   obtain ⟨cap, hv, hle, hes, hc⟩ := hy (Blk.live_row hl hh)
   rw [(join_new id).2]
   exact ⟨cap, hv, hle, by omega, hc⟩
 | ptr id i o =>
  obtain ⟨h1, h2, h3⟩ := r
  refine ⟨h1, by omega, fun k sh es he => ?_⟩
  rw [(join_new id).1] at he
  cases hj : D.H[id]? with
  | none => rw [hj] at he; simp at he
  | some m0 =>
   rw [hj] at he
   obtain ⟨es0, rfl, hl, _⟩ := Blk.shift_row (Option.some.inj he)
   rw [(join_new id).2]
   exact h3 k sh es0 hj
 | map id =>
  obtain ⟨h1, h2, h3⟩ := r
  refine ⟨h1, by omega, fun es he => ?_⟩
  rw [(join_new id).1] at he
  cases hj : D.H[id]? with
  | none => rw [hj] at he; simp at he
  | some m0 =>
   rw [hj] at he
   have := Blk.shift_map (Option.some.inj he)
   subst this
   rw [(join_new id).2]
   exact h3 es hj
 | undef => trivial
 | fn _ _ => exact r.elim
 | tup _ => exact r.elim
 | agg _ => exact r.elim
 | _ => exact join_RP hC hE r
theorem join_R1 (hC : HRep C) (hE : Ext C.shut D) {v : Value} {a : AV} (r : R1 D v a) : R1 (C.join D) v (a.shR C.H.length) := by
 cases a with
 | fn f caps =>
  obtain ⟨cv, hv, hsz, hc⟩ := r
  exact ⟨cv, hv, by simpa [AV.shR] using hsz, fun i hi => by
   simp only [List.getElem_map]
   exact join_RL hC hE (hc i (by simpa using hi))⟩
 | _ => first | exact join_RL hC hE (a := .bool _) r | exact join_RL hC hE (a := .int _ _) r | exact join_RL hC hE (a := .str _) r | exact join_RL hC hE (a := .nils) r | exact join_RL hC hE (a := .nilfn) r | exact join_RL hC hE (a := .list _ _) r | exact join_RL hC hE (a := .at _ _ _) r | exact join_RL hC hE (a := .own _ _ _) r | exact join_RL hC hE (a := .ptr _ _ _) r | exact join_RL hC hE (a := .map _) r | trivial | exact join_RL hC hE (a := .agg _) r | exact join_RL hC hE (a := .fn _ _) r | exact join_RL hC hE (a := .tup _) r | exact (show False from r).elim
theorem join_RA (hC : HRep C) (hE : Ext C.shut D) {v : Value} {a : AV} (r : RA D v a) : RA (C.join D) v (a.shA C.H.length) := by
 cases a with
 | agg cs =>
  obtain ⟨cv, hv, hsz, hc, ho⟩ := r
  exact ⟨cv, hv, by simpa using hsz, fun i hi => by
   simp only [List.getElem_map]
   exact join_R1 hC hE (hc i (by simpa using hi)), ho⟩
 | _ => first | exact join_R1 hC hE (a := .bool _) r | exact join_R1 hC hE (a := .int _ _) r | exact join_R1 hC hE (a := .str _) r | exact join_R1 hC hE (a := .nils) r | exact join_R1 hC hE (a := .nilfn) r | exact join_R1 hC hE (a := .list _ _) r | exact join_R1 hC hE (a := .at _ _ _) r | exact join_R1 hC hE (a := .own _ _ _) r | exact join_R1 hC hE (a := .ptr _ _ _) r | exact join_R1 hC hE (a := .map _) r | trivial | exact join_R1 hC hE (a := .agg _) r | exact join_R1 hC hE (a := .fn _ _) r | exact join_R1 hC hE (a := .tup _) r | exact (show False from r).elim
theorem join_RT (hC : HRep C) (hE : Ext C.shut D) {v : Value} {a : AV} (r : RT D v a) : RT (C.join D) v (a.shT C.H.length) := by
 cases a with
 | tup cs =>
  obtain ⟨cv, hv, hsz, hc⟩ := r
  exact ⟨cv, hv, by simpa using hsz, fun i hi => by
   simp only [List.getElem_map]
   exact join_RA hC hE (hc i (by simpa using hi))⟩
 | _ => first | exact join_RA hC hE (a := .bool _) r | exact join_RA hC hE (a := .int _ _) r | exact join_RA hC hE (a := .str _) r | exact join_RA hC hE (a := .nils) r | exact join_RA hC hE (a := .nilfn) r | exact join_RA hC hE (a := .list _ _) r | exact join_RA hC hE (a := .at _ _ _) r | exact join_RA hC hE (a := .own _ _ _) r | exact join_RA hC hE (a := .ptr _ _ _) r | exact join_RA hC hE (a := .map _) r | trivial | exact join_RA hC hE (a := .agg _) r | exact join_RA hC hE (a := .fn _ _) r | exact join_RA hC hE (a := .tup _) r | exact (show False from r).elim
theorem join_ext (hC : HRep C) (hE : Ext C.shut D) : Ext C (C.join D) where
 F := rfl
 os := hE.os
 tape := hE.tape
 output := hE.output
 size := hE.size
 len := by simp [Ctx.join]
 beta := fun id hid => (join_old hid).2
 keep := fun b hb _ => shut_keep hE hb
 fresh := fun id k hid hk hl => by
  rcases join_get hk with ⟨h, _⟩ | ⟨j, m0, rfl, hj, rfl⟩
  ·omega
  ·rw [(join_new j).2]; exact .inl (shut_fresh hE hj (Blk.shift_live.1 hl))
 rows := fun id k sh es hid he => by
  rw [(join_old hid).1] at he
  refine ⟨es, he, rfl, fun hl => ?_⟩
  obtain ⟨c, T, fr, hc, _⟩ := hC.row id k sh es he hl
  exact ⟨c, T, fr, c, T, fr, hc, by rw [← hc]; exact shut_keep hE (hC.lt he hl), rfl⟩
 maps := fun id es hid he => ⟨es, by rw [(join_old hid).1] at he; exact he⟩
 ros := fun id sh es hid he => .inl (by rw [(join_old hid).1] at he; exact he)
theorem join_rep (hC : HRep C) (hE : Ext C.shut D) (hD : HRep D) : HRep (C.join D) where
 inj := fun i j k m hk hm hlk hlm hb => by
  rcases join_get hk with ⟨hi, hk⟩ | ⟨i, k0, rfl, hk0, rfl⟩ <;> rcases join_get hm with ⟨hj, hm⟩ | ⟨j, m0, rfl, hm0, rfl⟩
  ·rw [(join_old hi).2, (join_old hj).2] at hb
   exact hC.inj i j k m hk hm hlk hlm hb
  ·rw [(join_old hi).2, (join_new j).2] at hb
   have h1 := hC.lt hk hlk
   have h2 := shut_fresh hE hm0 (Blk.shift_live.1 hlm)
   omega
  ·rw [(join_new i).2, (join_old hj).2] at hb
   have h1 := hC.lt hm hlm
   have h2 := shut_fresh hE hk0 (Blk.shift_live.1 hlk)
   omega
  ·rw [(join_new i).2, (join_new j).2] at hb
   rw [hD.inj i j k0 m0 hk0 hm0 (Blk.shift_live.1 hlk) (Blk.shift_live.1 hlm) hb]
 notF := fun i k hk hl hf => by
  rcases join_get hk with ⟨hi, hk⟩ | ⟨i, k0, rfl, hk0, rfl⟩
  ·rw [(join_old hi).2] at hf; exact hC.notF i k hk hl hf
  ·rw [(join_new i).2] at hf
   have h1 := hC.Flt _ hf
   have h2 := shut_fresh hE hk0 (Blk.shift_live.1 hl)
   omega
 Flt := fun b hf => Nat.lt_of_lt_of_le (hC.Flt b hf) hE.size
 sz := fun i k sh es he => by
  rcases join_get he with ⟨hi, hk⟩ | ⟨i, k0, rfl, hk0, h0⟩
  ·exact hC.sz i k sh es hk
  ·obtain ⟨es0, rfl, _, _⟩ := Blk.shift_row h0.symm
   exact hD.sz i k sh es0 hk0
 row := fun i k sh es he hl => by
  have hX := join_ext hC hE
  rcases join_get he with ⟨hi, hk⟩ | ⟨i, k0, rfl, hk0, h0⟩
  ·rw [(join_old hi).2]
   obtain ⟨c, T, fr, hc, h1, h2, h3, h4⟩ := hC.row i k sh es hk hl
   refine ⟨c, T, fr, by rw [← hc]; exact shut_keep hE (hC.lt hk hl), h1, h2, h3, fun j hj => ?_⟩
   obtain ⟨v, hv, hp, hs, hcell⟩ := h4 j hj
   exact ⟨v, hX.RA hv, fun hk => hX.RP (hp hk), hs, hcell⟩
  ·obtain ⟨es0, rfl, hlen, hes⟩ := Blk.shift_row h0.symm
   rw [(join_new i).2]
   obtain ⟨c, T, fr, hc, h1, h2, h3, h4⟩ := hD.row i k sh es0 hk0 (Blk.live_row hlen hl)
   refine ⟨c, T, fr, hc, h1, by rw [hlen]; exact h2, h3, fun j hj => ?_⟩
   obtain ⟨v, hv, hp, hs, hcell⟩ := h4 j (by omega)
   rcases hes with ⟨rfl, rfl⟩ | ⟨hk, rfl⟩
   ·refine ⟨v, ?_, fun hk => absurd rfl hk, hs, hcell⟩
    simp only [List.getElem_map]
    exact join_RA hC hE hv
   ·exact ⟨v, (join_RP hC hE (hp hk)).RA, fun _ => join_RP hC hE (hp hk), hs, hcell⟩
 map := fun i es he => by
  have hX := join_ext hC hE
  rcases join_get he with ⟨hi, hk⟩ | ⟨i, k0, rfl, hk0, h0⟩
  ·rw [(join_old hi).2]
   obtain ⟨me, cl, hm, hs, h⟩ := hC.map i es hk
   refine ⟨me, cl, by rw [← hm]; exact shut_keep hE (hC.lt hk trivial), hs, fun j hj => ?_⟩
   obtain ⟨m, h1, h2, h3⟩ := h j hj
   exact ⟨m, h1, hX.RP h2, hX.RP h3⟩
  ·have := Blk.shift_map h0.symm
   subst this
   rw [(join_new i).2]
   obtain ⟨me, cl, hm, hs, h⟩ := hD.map i es hk0
   refine ⟨me, cl, hm, hs, fun j hj => ?_⟩
   obtain ⟨m, h1, h2, h3⟩ := h j hj
   exact ⟨m, h1, join_RP hC hE h2, join_RP hC hE h3⟩
end
/-- Does a value read with nothing owned? -/
def AV.noOwn1 : AV → Bool
 | .own _ _ _ | .ptr _ _ _ | .map _ => false
 | _ => true
def AV.noOwnR : AV → Bool
 | .fn _ caps => caps.all AV.noOwn1
 | a => a.noOwn1
def AV.noOwn : AV → Bool
 | .agg cs => cs.all AV.noOwnR
 | a => a.noOwnR
theorem low1_eq {a : AV} (h : a.noOwn1 = true) : a.low1 = a := by cases a <;> simp_all [AV.noOwn1, AV.low1]
theorem lowR_eq {a : AV} (h : a.noOwnR = true) : a.lowR = a := by
 cases a with
 | fn f caps =>
  simp only [AV.noOwnR, List.all_eq_true] at h
  simp only [AV.lowR, AV.fn.injEq, true_and]
  exact (List.map_congr_left fun x hx => low1_eq (h x hx)).trans (List.map_id _)
 | _ => first | rfl | simp [AV.noOwnR, AV.noOwn1] at h
theorem lowA_eq {a : AV} (h : a.noOwn = true) : a.lowA = a := by
 cases a with
 | agg cs =>
  simp only [AV.noOwn, List.all_eq_true] at h
  simp only [AV.lowA, AV.agg.injEq]
  exact (List.map_congr_left fun x hx => lowR_eq (h x hx)).trans (List.map_id _)
 | _ => first | exact lowR_eq (a := .bool _) h | exact lowR_eq (a := .int _ _) h | exact lowR_eq (a := .str _) h | exact lowR_eq (a := .nils) h | exact lowR_eq (a := .nilfn) h | exact lowR_eq (a := .list _ _) h | exact lowR_eq (a := .at _ _ _) h | exact lowR_eq (a := .own _ _ _) h | exact lowR_eq (a := .ptr _ _ _) h | exact lowR_eq (a := .map _) h | exact lowR_eq (a := .undef) h | exact lowR_eq (a := .fn _ _) h | exact lowR_eq (a := .tup _) h
/-- A contract that owns nothing holds beside whatever is owned. -/
theorem ACalls.frame {P : Program} {f : FuncId} {args : List AV} {r : AV} {R : List Blk} (h : ACalls P f args [] r R) (ha : args.all AV.noOwn = true) (H : List Blk) :
  ACalls P f args H (r.shT H.length) (H ++ R.map (Blk.shift H.length)) := by
 refine ⟨h.1, fun C hH hC cargs hsz hargs => ?_⟩
 subst hH
 rw [List.all_eq_true] at ha
 refine (h.2 C.shut rfl (shut_rep hC) cargs hsz fun i hi => ?_).mono fun e w' h => ?_
 ·have := shut_RA (hargs i hi)
  rwa [lowA_eq (ha _ (List.getElem_mem hi))] at this
 ·obtain ⟨v, D, he, hw, rfl, hE, hD, hv⟩ := h
  exact ⟨v, C.join D, he, hw, rfl, join_ext hC hE, join_rep hC hE hD, join_RT hC hE hv⟩
theorem ACalls.le {P : Program} {f : FuncId} {args : List AV} {H H' : List Blk} {r r' : AV} (h : ACalls P f args H r H') (hr : LeA r r') : ACalls P f args H r' H' := by
 refine ⟨h.1, fun C hH hC cargs hsz hargs => (h.2 C hH hC cargs hsz hargs).mono fun e w' h => ?_⟩
 obtain ⟨v, D, he, hw, hH, hE, hD, hv⟩ := h
 exact ⟨v, D, he, hw, hH, hE, hD, hv.le hr⟩
theorem ACalls.args {P : Program} {f : FuncId} {args args' : List AV} {H H' : List Blk} {r : AV} (h : ACalls P f args' H r H') (ha : LeAs args args') : ACalls P f args H r H' := by
 refine ⟨h.1, fun C hH hC cargs hsz hargs => (h.2 C hH hC cargs (by rw [ha.length]; exact hsz) fun i hi => ?_)⟩
 have := hargs i (by rw [← ha.length]; exact hi)
 exact this.le (ha.get i _ hi)
end Go.Bv
