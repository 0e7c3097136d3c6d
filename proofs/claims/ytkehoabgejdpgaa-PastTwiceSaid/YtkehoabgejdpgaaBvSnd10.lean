/- Part of the lift: an abstract walk of the program's code, proved sound, and what it shows of this program. -/
import Derived.Test.YtkehoabgejdpgaaBvSnd9
import Derived.Laws.BytesString
import Derived.Laws.IdiomStrings
namespace Go.Bv
open Go

/-- A row that is cut goes on as a row of its own. -/
theorem cut_row {C : Ctx} (hC : HRep C) {id : Nat} {k : RK} {sh : Sh} {es : List AV} (hid : C.H[id]? = some (.row k sh es)) (hk : k ≠ .box) {n : Nat} (hn : n ≤ es.length) {v : Value}
    (hv : (Blk.row k sh es).live → v = .slice (some ⟨C.β id, 0, none⟩) n n) (hv0 : ∃ ad, v = .slice ad n n) :
    ∃ C' : Ctx, C'.w = C.w ∧ C'.H = C.H.set id .dead ++ [.row k sh (es.take n)] ∧ Ext C C' ∧ HRep C' ∧ RT C' v (.own C.H.length 0 n) := by
  have hlt := (List.getElem?_eq_some_iff.1 hid).1
  have hlen : (es.take n).length = n := by simp; omega
  have hnew : ∀ {b : Blk}, (C.H.set id .dead ++ [.row k sh (es.take n)])[C.H.length]? = some b → b = .row k sh (es.take n) := fun {b} hb => by
    have : C.H.length = (C.H.set id .dead).length := by simp
    rw [this, List.getElem?_append_right (Nat.le_refl _)] at hb
    simp at hb
    exact hb.symm
  by_cases hl : (Blk.row k sh es).live
  · obtain ⟨c, T, fr, hc, hfz, hsz, hone, hel⟩ := hC.row id k sh es hid hl
    have hw : World.write C.w (C.β id) c T fr = C.w := by
      unfold World.write
      have : C.w.heap.setIfInBounds (C.β id) (.cells c T fr) = C.w.heap := by
        apply Array.ext_getElem?
        intro q
        rw [Array.getElem?_setIfInBounds]
        split
        · rename_i e; subst e
          rw [if_pos (Array.getElem?_eq_some_iff.1 hc).1, hc]
        · rfl
      rw [this]
    have hE := mv_ext (c' := c) hC hid hl (es' := es.take n) hc
    have hrow : RowAt ⟨World.write C.w (C.β id) c T fr, C.F, fun i => if i = C.H.length then C.β id else C.β i, C.H.set id .dead ++ [.row k sh (es.take n)]⟩ (C.β id) k sh (es.take n) := by
      refine ⟨c, T, fr, by rw [hw]; exact hc, hfz, ?_, hone, fun i hi => ?_⟩
      · rw [hlen]; exact Nat.le_trans (Nat.mul_le_mul_right _ hn) hsz
      · rw [hlen] at hi
        obtain ⟨u, h1, h2, h3, h4⟩ := hel i (by omega)
        exact ⟨u, by rw [List.getElem_take]; exact hE.RA h1, fun hk => by rw [List.getElem_take]; exact hE.RP (h2 hk), h3, h4⟩
    have hC' := mv_hrep hC hid hl hc hrow
    rw [hw] at hE hC'
    refine ⟨⟨C.w, C.F, fun i => if i = C.H.length then C.β id else C.β i, C.H.set id .dead ++ [.row k sh (es.take n)]⟩, rfl, rfl, hE, hC', by obtain ⟨ad, rfl⟩ := hv0; rfl, by simp, fun k2 s2 es2 he => ?_, fun k2 s2 es2 he => ?_, fun s2 es2 he => ?_⟩
    · cases hnew he
      refine ⟨fun hnl => ?_, fun _ => ⟨n, by rw [hv hl]; simp, Nat.le_refl _, by omega, c, T, fr, by simp [hc], ?_⟩⟩
      · have h0 := (Blk.not_live_row hnl).2
        have : n = 0 := by rw [h0] at hlen; simpa using hlen.symm
        subst this
        exact ⟨_, hv hl, rfl⟩
      · rw [Nat.zero_add]; exact Nat.le_trans (Nat.mul_le_mul_right _ hn) hsz
    · cases hnew he; omega
    · cases hnew he
  · obtain ⟨rfl, rfl⟩ := Blk.not_live_row hl
    obtain ⟨ad, rfl⟩ := hv0
    simp only [List.length_nil, Nat.le_zero] at hn
    subst hn
    obtain ⟨C2, hw2, hH2, hE2, hC2, hr2⟩ := new_none (kill_hrep hC id) (w' := C.w) (fun _ _ => rfl) (Nat.le_refl _) rfl rfl rfl (hC.sz id _ _ _ hid) ad
    simp only [List.length_set] at hr2
    exact ⟨C2, hw2, by simpa using hH2, (kill_ext hC id).trans hE2, hC2, hr2⟩

section
variable {P : Program} (Γ : Tab P) {C : Ctx} (hC : HRep C) {a : Act} {fr : Fr} (hf : FrOk C a fr) {o : Oper} {next : AV → List Blk → Prop}
include hC hf

omit hC hf in
theorem run_sb {w : World} {k : IntKind} {i : Int} {y : Nat} {code : BoundsCode} (h0 : 0 ≤ i) (h1 : i.toNat ≤ y) : (Instr.sliceBound (.int k i) y code).run P w = .ok i.toNat w :=
  run_sliceBound w k i y code h0 (by omega)

theorem snd_indexAddr {t : TypeId} {x ix : Operand} (ho : o.op = .indexAddr t x ix) (h : aop Γ fr (.indexAddr t x ix) C.H next) : Snd P o a C next := by
  simp only [aop] at h
  have hx := hf.evT x
  have hix := hf.ev ix
  split at h
  · rename_i sh0 by0 e z0 hti
    obtain ⟨i, d, hi⟩ := Γ.info hti
    have hd := hi.slice rfl; subst hd
    split at h
    · rename_i sh by' kd z hte
      obtain ⟨i', d', hi'⟩ := Γ.info hte
      have fin : ∀ {b o' : Nat} {n c : Nat} {k : IntKind} {m : Int} {r : AV}, a.eval x = .slice (some ⟨b, o', none⟩) n c → a.eval ix = .int k m → 0 ≤ m → m.toNat < n → next r C.H → RT C (.pointer (some ⟨b, o' + m.toNat * sh.size, none⟩)) r → Snd P o a C next := by
        intro b o' n c k m r hv hm h0 h1 hn hr
        refine ⟨r, _, hn, Yield.same hC ?_ hr⟩
        simp only [execOp, ho, hv, hm]
        simp only [Instr.indexAt, asIntOf, Sem.run_bind, Sem.run_pure, Result.andThen_ok, run_und C.w hi.und]
        rw [if_pos ⟨h0, by omega⟩]
        simp only [Sem.run_bind, run_sz C.w hi'.info, hi'.sz, Result.andThen_ok, Sem.run_pure, addr_add]
      split at h
      · rename_i s l hxe
        split at h
        · rename_i hb
          have := Sh.beq_eq hb; subst this
          unfold intA at h
          split at h
          · rename_i k m hie
            rw [hie] at hix
            obtain ⟨h0, e', he, h⟩ := h
            obtain ⟨hlt, rfl⟩ := List.getElem?_eq_some_iff.1 he
            rw [hxe] at hx
            have hx : RP C.w C.G (a.eval x) (.list sh l) := hx
            generalize hv : a.eval x = v at hx
            cases hx with
            | list0 => simp at hlt
            | list _ b o' c _ vs hc hb' hr hs hcell =>
              refine fin hv hix.int h0 hlt h ?_
              have := RP.at (w := C.w) (G := C.G) sh b (o' + m.toNat * sh.size) 0 (vs m.toNat) l[m.toNat] hb' (hr _ hlt) (hs _ hlt) (fun j hj => hcell _ j hlt hj)
              exact this
          · exact h.elim
        · exact h.elim
      · rename_i id off len hxe
        rw [hxe] at hx
        split at h
        · rename_i kk s es hid
          split at h
          · exact h.elim
          · split at h
            · rename_i hb
              have := Sh.beq_eq hb; subst this
              unfold intA at h
              split at h
              · rename_i k m hie
                rw [hie] at hix
                obtain ⟨⟨h0, h1, h2⟩, h⟩ := h
                have hx0 := hx
                obtain ⟨_, hlt, hv, _⟩ := hx
                have hlive : (Blk.row kk sh es).live := by cases kk <;> simp [Blk.live]; intro h0; subst h0; simp at h2; omega
                obtain ⟨cap, hv, _⟩ := (hv kk sh es hid).2 hlive
                refine fin hv hix.int h0 (by omega) h ⟨rfl, hlt, fun k2 s2 es2 he => ?_⟩
                rw [hid] at he; cases he
                rw [Nat.add_mul, Nat.add_zero]
              · exact h.elim
            · exact h.elim
        · exact h.elim
      · exact h.elim
    · exact h.elim
  · exact h.elim

theorem snd_convert {src dst : TypeId} {x : Operand} (ho : o.op = .convert src dst x) (h : aop Γ fr (.convert src dst x) C.H next) : Snd P o a C next := by
  simp only [aop] at h
  have hx := hf.ev x
  split at h
  · rename_i sh0 by0 k z0 hti
    obtain ⟨i, d, hi⟩ := Γ.info hti
    have hd := hi.int rfl; subst hd
    split at h
    · rename_i k' n hxe
      rw [hxe] at hx
      have hx := hx.int
      split at h
      · rename_i sh1 by1 k1 z1 hts
        obtain ⟨i1, d1, hi1⟩ := Γ.info hts
        have hd1 := hi1.int rfl; subst hd1
        obtain ⟨z, rfl, h⟩ := h
        refine ⟨_, _, h, Yield.same hC (v := .int k (k.wrap n)) ?_ (RP.int (w := C.w) (G := C.G) _ _).RT⟩
        simp only [execOp, ho, hx, convert, Sem.run_bind, run_und C.w hi1.und, run_und C.w hi.und, Result.andThen_ok, Conv.intToInt, Sem.run_pure]
      · exact h.elim
    · exact h.elim
  · rename_i sh0 by0 z0 hti
    obtain ⟨i, d, hi⟩ := Γ.info hti
    have hd := hi.str rfl; subst hd
    split at h
    · rename_i sh1 by1 z1 hts
      obtain ⟨i1, d1, hi1⟩ := Γ.info hts
      have hd1 := hi1.str rfl; subst hd1
      split at h
      · rename_i s hxe
        rw [hxe] at hx
        obtain ⟨b, hb, rfl⟩ := hx.str
        refine ⟨_, _, h, Yield.same hC (v := .string b) ?_ (RP.str (w := C.w) (G := C.G) b).RT⟩
        simp only [execOp, ho, hb, convert, Sem.run_bind, run_und C.w hi1.und, run_und C.w hi.und, Result.andThen_ok, Sem.run_pure]
      · exact h.elim
    · rename_i sh1 by1 e z1 hts
      obtain ⟨i1, d1, hi1⟩ := Γ.info hts
      have hd1 := hi1.slice rfl; subst hd1
      split at h
      · rename_i sh2 by2 z2 hte
        obtain ⟨i2, d2, hi2⟩ := Γ.info hte
        have hd2 := hi2.int rfl; subst hd2
        obtain ⟨l, cells, ad, cap, ⟨hby, h⟩, hlay, hv, hcap, hfc⟩ := elems_snd (P := P) hC (hf.evT x) (sh := .leaf) (by simp [Sh.size]) h
        let ns : List Int := l.map fun x => match x with | .int _ n => n | _ => 0
        have hcells : cells = (ns.map (Value.int .u8)).toArray := by
          have hsz : cells.size = l.length := by simpa [Sh.size] using hlay.1
          apply Array.ext
          · simp [ns, hsz]
          · intro q h1 h2
            obtain ⟨u, hu, hs, hc⟩ := hlay.2 q (by omega)
            obtain ⟨n, hn⟩ := hby _ (List.getElem_mem (show q < l.length by omega))
            have hc := hc 0 (by simp [Sh.size])
            rw [cells_one hs] at hc
            simp only [Sh.size, Nat.mul_one, Nat.add_zero] at hc
            rw [Array.getElem?_eq_getElem h1] at hc
            simp at hc
            rw [hc]
            rw [hn] at hu
            rw [hu.int']
            simp [ns, hn]
        have hfold : ns.foldl (fun r n => r.push (UInt8.ofNat n.toNat)) ByteArray.empty = ⟨(l.map byteOf).toArray⟩ := by
          have : ∀ (l : List AV) (r : ByteArray), (∀ a ∈ l, isByte a) → (l.map fun x => match x with | .int _ n => n | _ => (0 : Int)).foldl (fun r n => r.push (UInt8.ofNat n.toNat)) r = ⟨r.data ++ (l.map byteOf).toArray⟩ := by
            intro l
            induction l with
            | nil => intro r _; simp
            | cons y l ih =>
              intro r hb
              obtain ⟨n, rfl⟩ := hb y (by simp)
              simp only [List.map_cons, List.foldl_cons]
              rw [ih _ fun a ha => hb a (by simp [ha])]
              simp [ByteArray.push, byteOf]
          exact (this l ByteArray.empty hby).trans (by show ByteArray.mk (#[] ++ _) = _; rw [Array.empty_append])
        have hres : (Conv.bytesToString (a.eval x)).run P C.w = .ok (.string ⟨(l.map byteOf).toArray⟩) C.w := by
          rw [hv]
          cases ad with
          | none =>
            have h0 : cells = #[] := by
              have := hfc C.w rfl
              rw [hv] at this
              simp only [Builtin.firstCells, Sem.run_pure, Result.ok.injEq] at this
              exact this.1.symm
            have : l = [] := by
              have := hlay.1; rw [h0] at this; simp [Sh.size] at this; exact List.eq_nil_of_length_eq_zero this.symm
            subst this
            rfl
          | some ad =>
            have hl := hfc C.w rfl
            rw [hv] at hl
            simp only [Builtin.firstCells, Sh.size, Nat.mul_one] at hl
            rw [hcells] at hl
            rw [run_bytesToString C.w ad l.length cap ns hl, hfold]
        refine ⟨_, _, h, Yield.same hC (v := .string ⟨(l.map byteOf).toArray⟩) ?_ ?_⟩
        · simp only [execOp, ho]
          rw [hv] at hres ⊢
          have hcv : (convert src dst (.slice ad l.length cap)).run P C.w = .ok (.string ⟨(l.map byteOf).toArray⟩) C.w := by
            simp only [convert, Sem.run_bind, run_und C.w hi1.und, run_und C.w hi.und, Result.andThen_ok, run_und C.w hi2.und]
            cases ad <;> exact hres
          rw [Sem.run_bind, hcv]; rfl
        · exact (RP.str (w := C.w) (G := C.G) ⟨(l.map byteOf).toArray⟩).RT
      · exact h.elim
    · exact h.elim
  · rename_i sh0 by0 e z0 hti
    obtain ⟨i, d, hi⟩ := Γ.info hti
    have hd := hi.slice rfl; subst hd
    split at h
    · rename_i sh1 by1 z1 hts
      obtain ⟨i1, d1, hi1⟩ := Γ.info hts
      have hd1 := hi1.str rfl; subst hd1
      split at h
      · rename_i sh2 by2 z2 hte
        obtain ⟨i2, d2, hi2⟩ := Γ.info hte
        have hd2 := hi2.int rfl; subst hd2
        split at h
        · rename_i s hxe
          rw [hxe] at hx
          obtain ⟨b, hb, rfl⟩ := hx.str
          obtain ⟨hbd, h⟩ := h
          have hr := run_bytes_of_string (P := P) C.w src dst e b hi1.und hi.und hi2.und
          have hg : b.size ≤ grownCap C.w b.size 0 e := Nat.le_add_right _ _
          have hlay : Lay C.w C.G .leaf (b.data.map fun c => .int .u8 c.toNat) (b.data.toList.map fun c => .int .u8 c.toNat) := by
            refine ⟨by simp [Sh.size], fun q hq => ?_⟩
            simp only [List.length_map, Array.length_toList] at hq
            refine ⟨.int .u8 (b.data[q]).toNat, by simp only [List.getElem_map, Array.getElem_toList]; exact .int _ _, rfl, fun j hj => ?_⟩
            simp only [Sh.size] at hj
            have : j = 0 := by omega
            subst this
            simp [Value.cells, Sh.size, Array.getElem?_eq_getElem hq]
          have hlb : bytesRow b (grownCap C.w b.size 0 e) = (b.data.map fun c => .int .u8 c.toNat) ++ Array.replicate (grownCap C.w b.size 0 e - b.size) (.int .u8 0) := rfl
          have hsz : (bytesRow b (grownCap C.w b.size 0 e)).size = grownCap C.w b.size 0 e := by
            rw [hlb]; simp
            have : b.data.size = b.size := rfl
            omega
          obtain ⟨C2, hw2, hH2, hE2, hC2, hr2⟩ := new_row hC (k := .row) (push_pre C.w.drew (.cells (bytesRow b (grownCap C.w b.size 0 e)) e ((bytesRow b (grownCap C.w b.size 0 e)).size, (bytesRow b (grownCap C.w b.size 0 e)).size + 1))) rfl rfl rfl
            (by rw [← hlb]; exact alloc_last _ _) (by rw [← hlb]; exact .inr (Nat.le_refl _))
            (fun o x hx => by
              rw [Array.getElem?_replicate] at hx
              split at hx <;> simp at hx
              subst hx; rfl) hlay (by simp [Sh.size]) (cap := grownCap C.w b.size 0 e) (by rw [← hlb, hsz]; simp [Sh.size]) (by simpa using hg) (fun hh => by cases hh)
          simp only [List.length_map, Array.length_toList] at hr2 h
          refine Snd.mk h ⟨C2, hw2, hH2, hE2, hC2, hr2⟩ ?_
          simp only [execOp, ho, hb]
          rw [Sem.run_bind, hr]; rfl
        · exact h.elim
      · exact h.elim
    · rename_i sh1 by1 e1 z1 hts
      split at h
      · rename_i hsd
        have hsd := Nat.eq_of_beq_eq_true hsd
        subst hsd
        split at h
        · rename_i sh2 by2 z2 hte
          obtain ⟨i2, d2, hi2⟩ := Γ.info hte
          have hd2 := hi2.int rfl; subst hd2
          split at h
          · rename_i id off len hxe
            rw [hxe] at hx
            have hx0 := hx
            obtain ⟨hone, hid, hv, hvb, hvr⟩ := hx0
            split at h
            · rename_i sh es hrow
              have hlive : (Blk.row .row sh es).live := trivial
              obtain ⟨cap, hvv, hlc, hes, c0, T0, fz0, hc0, hcs⟩ := (hv .row sh es hrow).2 hlive
              obtain ⟨c, T, fz, hc, hfz, hsz, hone', hel⟩ := hC.row id .row sh es hrow hlive
              have hwr : C.w.freeze { block := C.β id, off := c.size } 1 = World.write C.w (C.β id) c T (if fz.1 == fz.2 then (c.size, c.size + 1) else (min fz.1 c.size, max fz.2 (c.size + 1))) := by
                have hlt := (Array.getElem?_eq_some_iff.1 hc).1
                unfold World.freeze World.write
                rw [if_neg (by decide)]
                congr 1
                apply Array.ext_getElem?
                intro q
                rw [Array.getElem?_modify, Array.getElem?_setIfInBounds]
                by_cases hq : C.β id = q
                · subst hq
                  rw [if_pos rfl, if_pos rfl, if_pos hlt, hc]
                  rfl
                · rw [if_neg hq, if_neg hq]
              have hfz' : (if fz.1 == fz.2 then (c.size, c.size + 1) else (min fz.1 c.size, max fz.2 (c.size + 1))).1 = c.size := by
                split
                · rfl
                · rename_i hne
                  rcases hfz with hfz | hfz
                  · simp [hfz] at hne
                  · exact Nat.min_eq_right hfz
              have hHs : C.H.set id (.row .row sh es) = C.H := by
                apply List.ext_getElem?
                intro q
                rw [List.getElem?_set]
                split
                · rename_i e; subst e; rw [hrow]
                · rfl
              have hE1 := set_ext0 (T := T) (fr := if fz.1 == fz.2 then (c.size, c.size + 1) else (min fz.1 c.size, max fz.2 (c.size + 1))) hC hrow hlive rfl hc rfl
              have hC1 := set_hrep0 (T := T) (fr := if fz.1 == fz.2 then (c.size, c.size + 1) else (min fz.1 c.size, max fz.2 (c.size + 1))) hC hrow hlive rfl hc rfl
                ⟨c, T, _, by simp [World.write, (Array.getElem?_eq_some_iff.1 hc).1], .inr (Nat.le_of_eq hfz'.symm), hsz, hone', fun q hq => by
                  obtain ⟨v, h1, h2, h3, h4⟩ := hel q hq
                  exact ⟨v, hE1.RA h1, fun hk => hE1.RP (h2 hk), h3, h4⟩⟩
              rw [hHs] at hE1 hC1
              refine ⟨_, _, h, Yield.of (C' := { C with w := World.write C.w (C.β id) c T (if fz.1 == fz.2 then (c.size, c.size + 1) else (min fz.1 c.size, max fz.2 (c.size + 1))) }) (v := a.eval x) ?_ hE1 hC1 (hE1.RT hx)⟩
              simp only [execOp, ho]
              have hcv : (convert src src (a.eval x)).run P C.w = .ok (a.eval x) (World.write C.w (C.β id) c T (if fz.1 == fz.2 then (c.size, c.size + 1) else (min fz.1 c.size, max fz.2 (c.size + 1)))) := by
                rw [hvv]
                simp only [convert, Sem.run_bind, run_und C.w hi.und, Result.andThen_ok, run_und C.w hi2.und, beq_self_eq_true, markStringish, run_shape, World.shape?, hc, run_freeze, hwr, Sem.run_pure]
              rw [Sem.run_bind, hcv]; rfl
            · exact h.elim
          · exact h.elim
        · exact h.elim
      · exact h.elim
    · exact h.elim
  · exact h.elim


omit hC hf in
theorem drop_take_own {s : Sh} {off l : Nat} : off * s.size + l * s.size = (off + l) * s.size := by rw [Nat.add_mul]

omit hC hf in
theorem bounds_snd {isS : Bool} {len cap : Nat} {lo hi : Option Operand} {l h : Nat} (hl : ∀ x, lo = some x → ∃ k n, a.eval x = .int k n ∧ 0 ≤ n ∧ n.toNat = l) (hl0 : lo = none → l = 0)
    (hh : ∀ x, hi = some x → ∃ k n, a.eval x = .int k n ∧ 0 ≤ n ∧ n.toNat = h) (hh0 : hi = none → h = len) (h1 : l ≤ h) (h2 : h ≤ cap) (w : World) :
    (Instr.sliceBounds isS len cap (lo.map a.eval) (hi.map a.eval) none).run P w = .ok (l, h, cap) w := by
  unfold Instr.sliceBounds
  cases lo with
  | none =>
    have := hl0 rfl; subst this
    cases hi with
    | none => have := hh0 rfl; subst this; rfl
    | some y =>
      obtain ⟨k, n, hv, h0, hn⟩ := hh y rfl
      have hb := run_sb (P := P) (w := w) (k := k) (i := n) (y := cap) (code := if isS then .sliceAcap else .sliceAlen) h0 (by omega)
      rw [hn] at hb
      simp only [Option.map_none, Option.map_some, Sem.run_bind, Sem.run_pure, Result.andThen_ok, hv, hb]
  | some x =>
    obtain ⟨k, n, hv, h0, hn⟩ := hl x rfl
    have hb := run_sb (P := P) (w := w) (k := k) (i := n) (y := h) (code := .sliceB) h0 (by omega)
    rw [hn] at hb
    cases hi with
    | none =>
      have := hh0 rfl; subst this
      simp only [Option.map_none, Option.map_some, Sem.run_bind, Sem.run_pure, Result.andThen_ok, hv, Option.isSome_none, Bool.false_eq_true, if_false, hb]
    | some y =>
      obtain ⟨k', m, hv', h0', hm⟩ := hh y rfl
      have hb' := run_sb (P := P) (w := w) (k := k') (i := m) (y := cap) (code := if isS then .sliceAcap else .sliceAlen) h0' (by omega)
      rw [hm] at hb'
      simp only [Option.map_some, Sem.run_bind, Sem.run_pure, Result.andThen_ok, hv, hv', hb', Option.isSome_none, Bool.false_eq_true, if_false, hb]


omit hC hf in
theorem bounds3_snd {len cap : Nat} {lo : Option Operand} {hi mx : Operand} {l h m : Nat} (hl : ∀ x, lo = some x → ∃ k n, a.eval x = .int k n ∧ 0 ≤ n ∧ n.toNat = l) (hl0 : lo = none → l = 0)
    {kh km : IntKind} {ih im : Int} (hh : a.eval hi = .int kh ih) (hh0 : 0 ≤ ih) (hh1 : ih.toNat = h) (hm : a.eval mx = .int km im) (hm0 : 0 ≤ im) (hm1 : im.toNat = m) (h1 : l ≤ h) (h2 : h ≤ m) (h3 : m ≤ cap) (w : World) :
    (Instr.sliceBounds true len cap (lo.map a.eval) (some (a.eval hi)) (some (a.eval mx))).run P w = .ok (l, h, m) w := by
  unfold Instr.sliceBounds
  have b1 := run_sb (P := P) (w := w) (k := km) (i := im) (y := cap) (code := .slice3Acap) hm0 (by omega)
  have b2 := run_sb (P := P) (w := w) (k := kh) (i := ih) (y := m) (code := .slice3B) hh0 (by omega)
  rw [hm1] at b1
  rw [hh1] at b2
  cases lo with
  | none =>
    have := hl0 rfl; subst this
    simp only [Option.map_none, Sem.run_bind, Sem.run_pure, Result.andThen_ok, hm, hh, if_true, b1, b2]
  | some x =>
    obtain ⟨k, n, hv, h0, hn⟩ := hl x rfl
    have hb := run_sb (P := P) (w := w) (k := k) (i := n) (y := h) (code := .slice3C) h0 (by omega)
    rw [hn] at hb
    simp only [Option.map_some, Sem.run_bind, Sem.run_pure, Result.andThen_ok, hv, hm, hh, if_true, b1, b2, Option.isSome_some, hb]

omit hC hf in
/-- Slicing a slice. -/
theorem run_slice_at {t e : TypeId} {i' : TypeInfo} {sz : Nat} (hu : P.underlying t = some (.slice e)) (hi : P.info? e = some i') (hs : i'.size = sz) {ad : Option Addr} {len cap : Nat} {lo hi' mx : Option Value} {l h m : Nat} {w : World}
    (hb : (Instr.sliceBounds true len cap lo hi' mx).run P w = .ok (l, h, m) w) :
    (Instr.sliceAt t (.slice ad len cap) lo hi' mx).run P w = .ok (.slice (if m = l then ad else ad.map (·.add (l * sz))) (h - l) (m - l)) w := by
  simp only [Instr.sliceAt, Sem.run_bind, run_und w hu, Result.andThen_ok, Instr.slice]
  rw [hb]
  simp only [Result.andThen_ok, run_sz w hi, hs, Sem.run_pure]

omit hC in

theorem intA_elim {x : Operand} {k : Int → Prop} (h : intA (ev fr x) k) : ∃ kk n, a.eval x = .int kk n ∧ k n := by
  unfold intA at h
  split at h
  · rename_i kk n hxe
    have := hf.ev x
    rw [hxe] at this
    exact ⟨kk, n, this.int, h⟩
  · exact h.elim

theorem snd_slice {t : TypeId} {x : Operand} {lo hi mx : Option Operand} (ho : o.op = .slice t x lo hi mx) (h : aop Γ fr (.slice t x lo hi mx) C.H next) : Snd P o a C next := by
  simp only [aop] at h
  have hx := hf.evT x
  split at h
  · rename_i sh0 by0 k z0 hti
    obtain ⟨i, d, hin⟩ := Γ.info hti
    split at h
    · -- a text
      rename_i s hxe
      rw [hxe] at hx
      obtain ⟨b, hb, rfl⟩ := hx.str
      have hbs : b.data.toList.length = b.size := by simp
      split at h
      · have hd := hin.str rfl; subst hd
        have fin : ∀ {l h : Nat} {r : List UInt8}, (∀ x, lo = some x → ∃ k n, a.eval x = .int k n ∧ 0 ≤ n ∧ n.toNat = l) → (lo = none → l = 0) → (∀ x, hi = some x → ∃ k n, a.eval x = .int k n ∧ 0 ≤ n ∧ n.toNat = h) → (hi = none → h = b.size) →
            l ≤ h → h ≤ b.size → r = (b.data.toList.take h).drop l → next (.str r) C.H → Snd P o a C next := by
          intro l h r h1 h2 h3 h4 h5 h6 hr hn
          subst hr
          refine ⟨_, _, hn, Yield.same hC (v := .string (b.extract l h)) ?_ ?_⟩
          · have hbd := bounds_snd (P := P) (a := a) (isS := false) h1 h2 h3 h4 h5 h6 C.w
            have hs : (Instr.sliceAt t (.string b) (lo.map a.eval) (hi.map a.eval) none).run P C.w = .ok (.string (b.extract l h)) C.w := by
              simp only [Instr.sliceAt, Sem.run_bind, run_und C.w hin.und, Result.andThen_ok, Instr.slice, Option.isSome_none, Bool.false_eq_true, if_false]
              rw [hbd]; rfl
            simp only [execOp, ho, hb, Option.map_none]
            rw [Sem.run_bind, hs]; rfl
          · have := (RP.str (w := C.w) (G := C.G) (b.extract l h)).RT
            rw [ByteArray.data_extract] at this
            have e : (b.data.extract l h).toList = (b.data.toList.take h).drop l := by simp [Array.toList_extract, List.extract, List.drop_take]
            rw [e] at this
            exact this
        split at h
        · split at h
          · exact fin (l := 0) (h := b.size) (fun x hx => by cases hx) (fun _ => rfl) (fun x hx => by cases hx) (fun _ => rfl) (Nat.zero_le _) (Nat.le_refl _) (by rw [← hbs, List.take_length, List.drop_zero]) h
          · obtain ⟨kk, n, hv, ⟨h0, h1⟩, h⟩ := intA_elim hf h
            exact fin (l := 0) (h := n.toNat) (fun x hx => by cases hx) (fun _ => rfl) (fun x hx => by cases hx; exact ⟨_, _, hv, h0, rfl⟩) (fun hh => by cases hh) (Nat.zero_le _) (by omega) (by simp) h
        · split at h
          · obtain ⟨kk, n, hv, ⟨h0, h1⟩, h⟩ := intA_elim hf h
            exact fin (l := n.toNat) (h := b.size) (fun x hx => by cases hx; exact ⟨_, _, hv, h0, rfl⟩) (fun hh => by cases hh) (fun x hx => by cases hx) (fun _ => rfl) (by omega) (Nat.le_refl _) (by rw [← hbs, List.take_length]) h
          · obtain ⟨kk, n, hv, h⟩ := intA_elim hf h
            obtain ⟨kk', m, hv', ⟨h0, h1, h2⟩, h⟩ := intA_elim hf h
            exact fin (l := n.toNat) (h := m.toNat) (fun x hx => by cases hx; exact ⟨_, _, hv, h0, rfl⟩) (fun hh => by cases hh) (fun x hx => by cases hx; exact ⟨_, _, hv', by omega, rfl⟩) (fun hh => by cases hh) (by omega) (by omega) rfl h
      · exact h.elim
    · -- nil
      rename_i hxe
      rw [hxe] at hx
      have hv0 := hx.nils
      split at h
      · rename_i e
        have hd := hin.slice rfl; subst hd
        split at h
        · rename_i tiE hte
          obtain ⟨i', d', hi'⟩ := Γ.info hte
          have fin : (∀ x, lo = some x → ∃ k n, a.eval x = .int k n ∧ 0 ≤ n ∧ n.toNat = 0) → (∀ x, hi = some x → ∃ k n, a.eval x = .int k n ∧ 0 ≤ n ∧ n.toNat = 0) → next .nils C.H → Snd P o a C next := by
            intro h1 h2 hn
            refine ⟨_, _, hn, Yield.same hC (v := .slice none 0 0) ?_ (RP.nils (w := C.w) (G := C.G)).RT⟩
            simp only [execOp, ho, hv0, Option.map_none]
            rw [Sem.run_bind, run_slice_at hin.und hi'.info hi'.sz (bounds_snd (P := P) (a := a) (isS := true) h1 (fun _ => rfl) h2 (fun _ => rfl) (Nat.le_refl 0) (Nat.le_refl 0) C.w)]
            rfl
          split at h
          · split at h
            · exact fin (fun x hx => by cases hx) (fun x hx => by cases hx) h
            · obtain ⟨kk, n, hv', h0, h⟩ := intA_elim hf h
              exact fin (fun x hx => by cases hx) (fun x hx => by cases hx; exact ⟨_, _, hv', by omega, by omega⟩) h
          · split at h
            · obtain ⟨kk, n, hv', h0, h⟩ := intA_elim hf h
              exact fin (fun x hx => by cases hx; exact ⟨_, _, hv', by omega, by omega⟩) (fun x hx => by cases hx) h
            · obtain ⟨kk, n, hv', h⟩ := intA_elim hf h
              obtain ⟨kk', m, hv2, ⟨h0, h1⟩, h⟩ := intA_elim hf h
              exact fin (fun x hx => by cases hx; exact ⟨_, _, hv', by omega, by omega⟩) (fun x hx => by cases hx; exact ⟨_, _, hv2, by omega, by omega⟩) h
        · exact h.elim
      · rename_i e mx
        have hd := hin.slice rfl; subst hd
        split at h
        · rename_i tiE hte
          obtain ⟨i', d', hi'⟩ := Γ.info hte
          have fin : ∀ {hi : Operand} {k1 k2 : IntKind} {n1 n2 : Int}, o.op = .slice t x lo (some hi) (some mx) → (∀ x, lo = some x → ∃ k n, a.eval x = .int k n ∧ 0 ≤ n ∧ n.toNat = 0) → a.eval hi = .int k1 n1 → n1 = 0 → a.eval mx = .int k2 n2 → n2 = 0 → next .nils C.H → Snd P o a C next := by
            intro hi k1 k2 n1 n2 ho h1 h2 e1 h3 e2 hn
            subst e1 e2
            refine ⟨_, _, hn, Yield.same hC (v := .slice none 0 0) ?_ (RP.nils (w := C.w) (G := C.G)).RT⟩
            simp only [execOp, ho, hv0, Option.map_some]
            rw [Sem.run_bind, run_slice_at hin.und hi'.info hi'.sz (bounds3_snd (P := P) (a := a) h1 (fun _ => rfl) h2 (Int.le_refl 0) rfl h3 (Int.le_refl 0) rfl (Nat.le_refl 0) (Nat.le_refl 0) (Nat.le_refl 0) C.w)]
            rfl
          split at h
          · split at h
            · exact h.elim
            · obtain ⟨kk, n, hv1, h⟩ := intA_elim hf h
              obtain ⟨kk', m, hv2, ⟨h0, h1⟩, h⟩ := intA_elim hf h
              exact fin ho (fun x hx => by cases hx) hv1 h0 hv2 h1 h
          · split at h
            · exact h.elim
            · obtain ⟨kk, n, hv', h⟩ := intA_elim hf h
              obtain ⟨kk1, n1, hv1, h⟩ := intA_elim hf h
              obtain ⟨kk', m, hv2, ⟨h00, h0, h1⟩, h⟩ := intA_elim hf h
              exact fin ho (fun x hx => by cases hx; exact ⟨_, _, hv', by omega, by omega⟩) hv1 h0 hv2 h1 h
        · exact h.elim
      · exact h.elim
    · -- a list
      rename_i sh s hxe
      rw [hxe] at hx
      split at h
      · rename_i e
        have hd := hin.slice rfl; subst hd
        split at h
        · rename_i shE byE kE zE hte
          obtain ⟨i', d', hi'⟩ := Γ.info hte
          split at h
          · rename_i hbq
            have := Sh.beq_eq hbq; subst this
            have hx : RP C.w C.G (a.eval x) (.list shE s) := hx
            -- the value of a slicing of a list
            have val : ∀ {l h m cap : Nat} {ad : Option Addr}, a.eval x = .slice ad s.length cap → l ≤ h → h ≤ s.length → h ≤ m → RP C.w C.G (.slice (if m = l then ad else ad.map (·.add (l * shE.size))) (h - l) (m - l)) (.list shE ((s.take h).drop l)) := by
              intro l h m cap ad hv h1 h2 h3
              rw [hv] at hx
              by_cases h0 : h = l
              · subst h0
                have : (s.take h).drop h = [] := by simp
                rw [this, Nat.sub_self]
                exact .list0 _ _ _
              · generalize hvv : Value.slice ad s.length cap = vv at hx
                cases hx with
                | list0 => simp at h2; omega
                | list _ b o' c _ vs hc hb' hr hs hcell =>
                  cases hvv
                  have hlen : ((s.take h).drop l).length = h - l := by simp; omega
                  have hne : ¬ (m = l) := by omega
                  simp only [if_neg hne, Option.map_some, addr_add]
                  have := RP.list (w := C.w) (G := C.G) shE b (o' + l * shE.size) (m - l) ((s.take h).drop l) (fun q => vs (l + q)) (by omega) hb'
                    (fun q hq => by
                      simp only [List.getElem_drop, List.getElem_take]
                      exact hr (l + q) (by omega)) (fun q hq => hs _ (by omega))
                    (fun q j hq hj => by
                      rw [← hcell (l + q) j (by omega) hj]
                      congr 2
                      rw [Nat.add_mul]; omega)
                  rw [hlen] at this
                  exact this
            obtain ⟨ad, cap, hv, hlc⟩ : ∃ ad cap, a.eval x = .slice ad s.length cap ∧ s.length ≤ cap := by
              generalize a.eval x = u at hx
              cases hx with
              | list0 => exact ⟨_, _, rfl, Nat.zero_le _⟩
              | list _ _ _ _ _ _ hc => exact ⟨_, _, rfl, hc⟩
            have fin : ∀ {l h : Nat} {r : List AV}, (∀ x, lo = some x → ∃ k n, a.eval x = .int k n ∧ 0 ≤ n ∧ n.toNat = l) → (lo = none → l = 0) → (∀ x, hi = some x → ∃ k n, a.eval x = .int k n ∧ 0 ≤ n ∧ n.toNat = h) → (hi = none → h = s.length) →
                mx = none → l ≤ h → h ≤ s.length → r = (s.take h).drop l → next (.list shE r) C.H → Snd P o a C next := by
              intro l h r h1 h2 h3 h4 hmx h5 h6 hr hn
              subst hr hmx
              refine ⟨_, _, hn, Yield.same hC (v := _) ?_ (val hv h5 h6 (Nat.le_trans h6 hlc)).RT⟩
              simp only [execOp, ho, hv, Option.map_none]
              rw [Sem.run_bind, run_slice_at hin.und hi'.info hi'.sz (bounds_snd (P := P) (a := a) (isS := true) h1 h2 h3 h4 h5 (Nat.le_trans h6 hlc) C.w)]
              rfl
            split at h
            · split at h
              · split at h
                · exact fin (l := 0) (h := s.length) (fun x hx => by cases hx) (fun _ => rfl) (fun x hx => by cases hx) (fun _ => rfl) rfl (Nat.zero_le _) (Nat.le_refl _) (by simp) h
                · obtain ⟨kk, n, hv', ⟨h0, h1⟩, h⟩ := intA_elim hf h
                  exact fin (l := 0) (h := n.toNat) (fun x hx => by cases hx) (fun _ => rfl) (fun x hx => by cases hx; exact ⟨_, _, hv', h0, rfl⟩) (fun hh => by cases hh) rfl (Nat.zero_le _) h1 (by simp) h
              · split at h
                · obtain ⟨kk, n, hv', ⟨h0, h1⟩, h⟩ := intA_elim hf h
                  exact fin (l := n.toNat) (h := s.length) (fun x hx => by cases hx; exact ⟨_, _, hv', h0, rfl⟩) (fun hh => by cases hh) (fun x hx => by cases hx) (fun _ => rfl) rfl h1 (Nat.le_refl _) (by simp) h
                · obtain ⟨kk, n, hv1, h⟩ := intA_elim hf h
                  obtain ⟨kk', m, hv2, ⟨h0, h1, h2⟩, h⟩ := intA_elim hf h
                  exact fin (l := n.toNat) (h := m.toNat) (fun x hx => by cases hx; exact ⟨_, _, hv1, h0, rfl⟩) (fun hh => by cases hh) (fun x hx => by cases hx; exact ⟨_, _, hv2, by omega, rfl⟩) (fun hh => by cases hh) rfl (by omega) h2 rfl h
            · split at h
              · split at h
                · exact h.elim
                · obtain ⟨kk, n, hv1, h⟩ := intA_elim hf h
                  obtain ⟨kk', m, hv2, ⟨h0, h1, h2⟩, h⟩ := intA_elim hf h
                  refine ⟨_, _, h, Yield.same hC (v := _) ?_ ((by simpa using val hv (l := 0) (h := n.toNat) (m := m.toNat) (Nat.zero_le _) (by omega) (by omega) : RP C.w C.G _ (.list shE (s.take n.toNat)))).RT⟩
                  simp only [execOp, ho, hv, Option.map_some]
                  rw [Sem.run_bind, run_slice_at hin.und hi'.info hi'.sz (bounds3_snd (P := P) (a := a) (lo := none) (l := 0) (fun x hx => by cases hx) (fun _ => rfl) hv1 h0 rfl hv2 (by omega) rfl (Nat.zero_le _) (by omega) (by omega) C.w)]
                  simp
              · split at h
                · exact h.elim
                · obtain ⟨k0, n0, hv0, h⟩ := intA_elim hf h
                  obtain ⟨kk, n, hv1, h⟩ := intA_elim hf h
                  obtain ⟨kk', m, hv2, ⟨h0, h01, h1, h2⟩, h⟩ := intA_elim hf h
                  refine ⟨_, _, h, Yield.same hC (v := _) ?_ (val hv (l := n0.toNat) (h := n.toNat) (m := m.toNat) (by omega) (by omega) (by omega)).RT⟩
                  have hb3 := bounds3_snd (P := P) (a := a) (len := s.length) (cap := cap) (l := n0.toNat) (lo := some _) (fun x hx => by cases hx; exact ⟨_, _, hv0, h0, rfl⟩) (fun hh => by cases hh) hv1 (by omega) rfl hv2 (by omega) rfl (by omega) (by omega) (by omega) C.w
                  simp only [execOp, ho, hv, Option.map_some] at hb3 ⊢
                  rw [Sem.run_bind, run_slice_at hin.und hi'.info hi'.sz hb3]
                  rfl
          · exact h.elim
        · exact h.elim
      · exact h.elim
    · -- an owned row
      rename_i id off len hxe
      rw [hxe] at hx
      split at h
      · rename_i e
        have hd := hin.slice rfl; subst hd
        split at h
        · rename_i shE byE kE zE hte
          obtain ⟨i', d', hi'⟩ := Γ.info hte
          split at h
          · rename_i kk sh es hid
            split at h
            · exact h.elim
            · rename_i hkk
              split at h
              · rename_i hbq
                have := Sh.beq_eq hbq; subst this
                obtain ⟨hone, hidl, hx, hxb, _⟩ := hx
                obtain ⟨hvn, hvl⟩ := hx kk _ es hid
                have hbd0 := hxb kk _ es hid
                obtain ⟨ad, cap, hv, hlc, hec⟩ : ∃ ad cap, a.eval x = .slice ad len cap ∧ len ≤ cap ∧ es.length ≤ off + cap := by
                  by_cases hl : (Blk.row kk shE es).live
                  · obtain ⟨cap, hv, hcap, hes, _⟩ := hvl hl; exact ⟨_, _, hv, hcap, hes⟩
                  · obtain ⟨ad, hv, h0⟩ := hvn hl
                    obtain ⟨rfl, rfl⟩ := Blk.not_live_row hl
                    subst h0; exact ⟨_, _, hv, Nat.le_refl _, by simp⟩
                have go : ∀ {l q : Nat} {r : AV}, (∀ x, lo = some x → ∃ k n, a.eval x = .int k n ∧ 0 ≤ n ∧ n.toNat = l) → (lo = none → l = 0) → (∀ x, hi = some x → ∃ k n, a.eval x = .int k n ∧ 0 ≤ n ∧ n.toNat = q) → (hi = none → q = len) →
                    mx = none → l ≤ q → q ≤ cap → RT C (.slice (if cap = l then ad else ad.map (·.add (l * shE.size))) (q - l) (cap - l)) r → next r C.H → Snd P o a C next := by
                  intro l q r h1 h2 h3 h4 hmx h5 h6 hr hn
                  subst hmx
                  refine ⟨_, _, hn, Yield.same hC (v := _) ?_ hr⟩
                  simp only [execOp, ho, hv, Option.map_none]
                  rw [Sem.run_bind, run_slice_at hin.und hi'.info hi'.sz (bounds_snd (P := P) (a := a) (isS := true) h1 h2 h3 h4 h5 h6 C.w)]
                  rfl
                have own : ∀ {l q : Nat}, l ≤ q → off + q ≤ es.length → (l = 0 ∨ off + l < es.length) → RT C (.slice (if cap = l then ad else ad.map (·.add (l * shE.size))) (q - l) (cap - l)) (.own id (off + l) (q - l)) := by
                  intro l q h1 h2 h3
                  refine ⟨rfl, hidl, fun k2 s2 es2 he => ?_, fun k2 s2 es2 he => ?_, fun s2 es2 he => ?_⟩
                  rotate_left
                  · rw [hid] at he; cases he; omega
                  · rw [hid] at he; cases he
                  rw [hid] at he; cases he
                  refine ⟨fun hn => ?_, fun hl => ?_⟩
                  · obtain ⟨ad', hv', h0⟩ := hvn hn
                    obtain ⟨rfl, rfl⟩ := Blk.not_live_row hn
                    rw [hv] at hv'; cases hv'
                    simp only [List.length_nil] at h2 h3
                    have : l = 0 := by omega
                    have : q = 0 := by omega
                    subst l q
                    exact ⟨_, by simp; rfl, rfl⟩
                  · obtain ⟨cap', hv', hcap, hes, c, T, fz, hc, hcs⟩ := hvl hl
                    rw [hv] at hv'; cases hv'
                    refine ⟨cap - l, ?_, by omega, by omega, c, T, fz, hc, ?_⟩
                    · rcases h3 with h3 | h3
                      · subst h3; simp [addr_add]
                      · rw [if_neg (by omega)]; simp [addr_add, Nat.add_mul]
                    · have : off + l + (cap - l) = off + cap := by omega
                      rw [this]; exact hcs
                split at h
                · split at h
                  · split at h
                    · have := own (l := 0) (q := len) (Nat.zero_le _) hbd0 (.inl rfl)
                      exact go (l := 0) (q := len) (fun x hx => by cases hx) (fun _ => rfl) (fun x hx => by cases hx) (fun _ => rfl) rfl (Nat.zero_le _) hlc this h
                    · obtain ⟨k1, n, hv', ⟨h0, h1⟩, h⟩ := intA_elim hf h
                      have := own (l := 0) (q := n.toNat) (Nat.zero_le _) h1 (.inl rfl)
                      exact go (l := 0) (q := n.toNat) (fun x hx => by cases hx) (fun _ => rfl) (fun x hx => by cases hx; exact ⟨_, _, hv', h0, rfl⟩) (fun hh => by cases hh) rfl (Nat.zero_le _) (by omega) this h
                  · split at h
                    · obtain ⟨k1, n, hv', h⟩ := intA_elim hf h
                      cases h with
                      | mid hh hn =>
                        have := own (l := n.toNat) (q := len) (by omega) hbd0 (.inr (by omega))
                        exact go (l := n.toNat) (q := len) (fun x hx => by cases hx; exact ⟨_, _, hv', hh.1, rfl⟩) (fun hh => by cases hh) (fun x hx => by cases hx) (fun _ => rfl) rfl (by omega) hlc this hn
                      | fin hh hn =>
                        exact go (l := n.toNat) (q := len) (r := .list shE []) (fun x hx => by cases hx; exact ⟨_, _, hv', by omega, rfl⟩) (fun hh => by cases hh) (fun x hx => by cases hx) (fun _ => rfl) rfl (by omega) hlc (by
                          have : len - n.toNat = 0 := by omega
                          rw [this]
                          exact (RP.list0 (w := C.w) (G := C.G) shE _ _).RT) hn
                    · obtain ⟨k1, n, hv1, h⟩ := intA_elim hf h
                      obtain ⟨k2, m, hv2, ⟨h0, h1, h2⟩, h⟩ := intA_elim hf h
                      cases h with
                      | mid hh hn =>
                        have := own (l := n.toNat) (q := m.toNat) (by omega) h2 (.inr (by omega))
                        exact go (l := n.toNat) (q := m.toNat) (fun x hx => by cases hx; exact ⟨_, _, hv1, h0, rfl⟩) (fun hh => by cases hh) (fun x hx => by cases hx; exact ⟨_, _, hv2, by omega, rfl⟩) (fun hh => by cases hh) rfl (by omega) (by omega) this hn
                      | fin hh hn =>
                        exact go (l := n.toNat) (q := m.toNat) (r := .list shE []) (fun x hx => by cases hx; exact ⟨_, _, hv1, h0, rfl⟩) (fun hh => by cases hh) (fun x hx => by cases hx; exact ⟨_, _, hv2, by omega, rfl⟩) (fun hh => by cases hh) rfl (by omega) (by omega) (by
                          have : m.toNat - n.toNat = 0 := by omega
                          rw [this]
                          exact (RP.list0 (w := C.w) (G := C.G) shE _ _).RT) hn
                · split at h
                  · split at h
                    · exact h.elim
                    · obtain ⟨k1, n, hv1, h⟩ := intA_elim hf h
                      obtain ⟨k2, m, hv2, ⟨h0, h1, h2⟩, h⟩ := intA_elim hf h
                      have hrun : (execOp a.eval o).run P C.w = .ok (.value (.slice ad n.toNat m.toNat)) C.w := by
                        simp only [execOp, ho, hv, Option.map_some]
                        rw [Sem.run_bind, run_slice_at hin.und hi'.info hi'.sz (bounds3_snd (P := P) (a := a) (lo := none) (l := 0) (fun x hx => by cases hx) (fun _ => rfl) hv1 h0 rfl hv2 (by omega) rfl (Nat.zero_le _) (by omega) (by omega) C.w)]
                        cases ad <;> simp [addr_add, Addr.add]
                      cases h with
                      | lst h =>
                        have hE1 := ro_ext hC hid hkk
                        have hC1 := ro_hrep hC hid hkk
                        have hr : RP ({ C with H := C.H.set id (.ro shE es) } : Ctx).w ({ C with H := C.H.set id (.ro shE es) } : Ctx).G (.slice ad n.toNat m.toNat) (.list shE ((es.drop off).take n.toNat)) := by
                          by_cases hl : (Blk.row kk shE es).live
                          · obtain ⟨cap', hv', hcap, hes, c, T, fz, hc, hcs⟩ := hvl hl
                            rw [hv] at hv'; cases hv'
                            exact (row_ro hC (fun b hb => (hE1.G hb).1) hid hkk hl (ro_G hC hid hl)).list (by omega) (by omega)
                          · obtain ⟨rfl, rfl⟩ := Blk.not_live_row hl
                            simp only [List.length_nil] at h2
                            have hn0 : n.toNat = 0 := by omega
                            rw [hn0, List.take_zero]
                            exact .list0 _ _ _
                        exact ⟨_, _, h, Yield.of (C' := { C with H := C.H.set id (.ro shE es) }) (v := .slice ad n.toNat m.toNat) hrun hE1 hC1 (RP.RT (C := { C with H := C.H.set id (.ro shE es) }) hr)⟩
                      | own h =>
                        obtain ⟨⟨h3, h4⟩, hq⟩ := h
                        subst h3 h4
                        have hcut := cut_row hC hid hkk (n := m.toNat) (by omega) (v := .slice ad m.toNat m.toNat) (fun hl => by
                          obtain ⟨cap', hv', hcap, hes, c, T, fz, hc, hcs⟩ := hvl hl
                          rw [hv] at hv'; cases hv'
                          simp) (by
                            by_cases hl : (Blk.row kk shE es).live
                            · obtain ⟨cap', hv', _⟩ := hvl hl
                              exact ⟨_, rfl⟩
                            · exact ⟨_, rfl⟩)
                        obtain ⟨C', hw, hH, hE, hC', hr⟩ := hcut
                        refine ⟨_, _, hq, ?_⟩
                        rw [← hH]
                        exact Yield.of (C' := C') (v := .slice ad m.toNat m.toNat) (by rw [hw]; exact hrun) hE hC' hr
                  · split at h
                    · exact h.elim
                    · obtain ⟨k0, n0, hv0, h⟩ := intA_elim hf h
                      obtain ⟨k1, n, hv1, h⟩ := intA_elim hf h
                      obtain ⟨k2, m, hv2, ⟨h0, h01, h1, h2⟩, h⟩ := intA_elim hf h
                      refine ⟨_, _, h, Yield.same hC (v := .slice (if m.toNat = n0.toNat then ad else ad.map (·.add (n0.toNat * shE.size))) (n.toNat - n0.toNat) (m.toNat - n0.toNat)) ?_ trivial⟩
                      have hb3 := bounds3_snd (P := P) (a := a) (len := len) (cap := cap) (l := n0.toNat) (lo := some _) (fun x hx => by cases hx; exact ⟨_, _, hv0, h0, rfl⟩) (fun hh => by cases hh) hv1 (by omega) rfl hv2 (by omega) rfl (by omega) (by omega) (by omega) C.w
                      simp only [execOp, ho, hv, Option.map_some] at hb3 ⊢
                      rw [Sem.run_bind, run_slice_at hin.und hi'.info hi'.sz hb3]
                      rfl
              · exact h.elim
          · exact h.elim
        · exact h.elim
      · exact h.elim
    · exact h.elim
  · exact h.elim

end
end Go.Bv
