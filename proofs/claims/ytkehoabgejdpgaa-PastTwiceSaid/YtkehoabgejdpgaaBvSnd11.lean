/- Part of the lift: an abstract walk of the program's code, proved sound, and what it shows of this program. -/
import Derived.Test.YtkehoabgejdpgaaBvConv
namespace Go.Bv
open Go

section
variable {P : Program} (Γ : Tab P) {C : Ctx} (hC : HRep C) {a : Act} {fr : Fr} (hf : FrOk C a fr) {o : Oper} {next : AV → List Blk → Prop}
include hC hf

theorem snd_clear {t : TypeId} {x : Operand} {ct : Array TypeId} {ca : Array Operand} (ho : o.op = .call ⟨.builtin .clear, ca, ct⟩) (hct : ct.toList = [t]) (hca : ca.toList = [x])
    (h : aop Γ fr (.call ⟨.builtin .clear, ca, ct⟩) C.H next) : Snd P o a C next := by
  simp only [aop, hct, hca] at h
  have hx := hf.ev x
  have hct : ct = #[t] := by apply Array.ext'; simpa using hct
  have hca : ca = #[x] := by apply Array.ext'; simpa using hca
  subst hct hca
  have run0 : ∀ v w', (Builtin.clear_ #[t] o.type #[a.eval x]).run P C.w = .ok v w' → (execOp a.eval o).run P C.w = .ok (.value v) w' := by
    intro v w' hv
    simp only [execOp, ho, resolve, Sem.run_bind, Sem.run_pure, Result.andThen_ok, invoke, builtin, List.map_toArray, List.map_cons, List.map_nil, hv]
  split at h
  case h_2 => exact h.elim
  rename_i sh0 by0 e z0 hti
  obtain ⟨i, d, hi⟩ := Γ.info hti
  have hd := hi.slice rfl; subst hd
  split at h
  case h_2 => exact h.elim
  rename_i sh by' kd z hte
  obtain ⟨i', d', hi'⟩ := Γ.info hte
  split at h
  · rename_i hxe
    rw [hxe] at hx
    have hb := hx.nils
    refine ⟨_, _, h, Yield.same hC (v := .tuple #[]) (run0 _ _ ?_) trivial⟩
    simp [Builtin.clear_, run_und C.w hi.und, hb]
  · rename_i s l hxe
    rw [hxe] at hx
    obtain ⟨rfl, h⟩ := h
    have hx : RP C.w C.G (a.eval x) (.list s []) := hx
    obtain ⟨ad, c, hb⟩ : ∃ ad c, a.eval x = .slice ad 0 c := by
      generalize a.eval x = u at hx
      generalize hq : AV.list s [] = q at hx
      cases hx <;> cases hq <;> exact ⟨_, _, rfl⟩
    refine ⟨_, _, h, Yield.same hC (v := .tuple #[]) (run0 _ _ ?_) trivial⟩
    cases ad <;> simp [Builtin.clear_, run_und C.w hi.und, hb]
  · rename_i id off len hxe
    rw [hxe] at hx
    split at h
    case h_2 => exact h.elim
    rename_i hz
    simp only [Bool.and_eq_true] at hz
    split at h
    case h_2 => exact h.elim
    rename_i kk s es hid
    split at h
    · exact h.elim
    rename_i hkk
    split at h
    case h_2 => exact h.elim
    rename_i hbq
    have := Sh.beq_eq hbq; subst this
    obtain ⟨hone, hidl, hv, hvb, hvr⟩ := hx
    have hbd := hvb kk _ es hid
    obtain ⟨hvn, hvl⟩ := hv kk _ es hid
    obtain ⟨zv, hzi, hze⟩ := hi'.zeroOk (sh := s) hz.1
    have hze : avOfA zv = z := hze
    have hra : RA C zv z := hze ▸ RA_avOfA zv
    have hzs := hra.shOk hz.1
    have hzp := hra.pure hz.2
    have hp := hC.sz id kk s es hid
    by_cases hl : (Blk.row kk s es).live
    · obtain ⟨cap, hvv, hcap, hes, c, T, fz, hc, hcs⟩ := hvl hl
      obtain ⟨c', T', fz', hc', hfz, hsz, hone', hel⟩ := hC.row id kk s es hid hl
      rw [hc] at hc'; cases hc'
      have hlt := (Array.getElem?_eq_some_iff.1 hc).1
      have hcl : (Builtin.zeroCells zv.cells len).toList.length = len * s.size := by simp [zeroCells_size, hzs.size]
      have hfit : off * s.size + len * s.size ≤ c.size := by
        have := Nat.mul_le_mul_right s.size hbd
        rw [Nat.add_mul] at this; omega
      have hst := run_storeCells_rep (P := P) (b := C.β id) (o := off * s.size) (T := T) (fr := fz) (Builtin.zeroCells zv.cells len).toList 0 c C.w hc (by omega) (fzNot hfz) (fun v hv => by
        rw [Array.mem_toList_iff] at hv
        obtain ⟨i, hi, rfl⟩ := Array.mem_iff_getElem.1 hv
        exact zeroCells_one hzs len (Array.getElem?_eq_getElem hi))
      rw [Nat.add_zero] at hst
      have hlen : (es.take off ++ (List.replicate len z ++ es.drop (off + len))).length = es.length := by simp; omega
      have hsz' : (writeAt c (off * s.size) (Builtin.zeroCells zv.cells len).toList).size = c.size := writeAt_size _ _ _
      have hE := set_ext hC hid hl hlen hc hsz'
      have hget : ∀ q, (writeAt c (off * s.size) (Builtin.zeroCells zv.cells len).toList)[q]? = if off * s.size ≤ q ∧ q < off * s.size + len * s.size then (Builtin.zeroCells zv.cells len)[q - off * s.size]? else c[q]? := by
        intro q
        have := writeAt_get (Builtin.zeroCells zv.cells len).toList c (off * s.size) q (by omega)
        rw [hcl, Array.getElem?_toList] at this
        exact this
      have hlz := Lay.zeros (w := C.w) (G := C.G) hzp hzs len
      have hrow : RowAt { C with w := World.write C.w (C.β id) (writeAt c (off * s.size) (Builtin.zeroCells zv.cells len).toList) T fz, H := C.H.set id (.row kk s (es.take off ++ (List.replicate len z ++ es.drop (off + len)))) } (C.β id) kk s (es.take off ++ (List.replicate len z ++ es.drop (off + len))) := by
        refine ⟨_, T, fz, by simp [World.write, hlt]; rfl, by rw [writeAt_size]; exact hfz, by rw [writeAt_size, hlen]; exact hsz, fun q y hy => ?_, fun i hi' => ?_⟩
        · rw [hget] at hy
          split at hy
          · exact zeroCells_one hzs len hy
          · exact hone' q y hy
        · have hi2 : i < es.length := by rw [hlen] at hi'; exact hi'
          by_cases hin : off ≤ i ∧ i < off + len
          · obtain ⟨u, hu1, hu2, hu3⟩ := hlz.2 (i - off) (by simp; omega)
            have eg : (es.take off ++ (List.replicate len z ++ es.drop (off + len)))[i]'hi' = (List.replicate len z)[i - off]'(by simp; omega) := by
              rw [List.getElem_append_right (by simp; omega), List.getElem_append_left (by simp; omega)]
              simp
            refine ⟨u, by rw [eg]; exact hE.RA hu1.RA, fun hk => by rw [eg]; exact hE.RP hu1, hu2, fun j hj => ?_⟩
            have e1 : i * s.size = off * s.size + (i - off) * s.size := by rw [← Nat.add_mul]; congr 1; omega
            have := idx_lt (show i - off < len by omega) hj
            rw [hget, if_pos (by omega), ← hu3 j hj]
            congr 1; omega
          · obtain ⟨u, hu1, hu2, hu3, hu4⟩ := hel i hi2
            have eg : (es.take off ++ (List.replicate len z ++ es.drop (off + len)))[i]'hi' = es[i]'hi2 := by
              rcases Nat.lt_or_ge i off with h4 | h4
              · rw [List.getElem_append_left (by simp; omega)]; simp
              · rw [List.getElem_append_right (by simp; omega), List.getElem_append_right (by simp; omega)]
                simp only [List.getElem_drop, List.length_take, List.length_replicate]
                congr 1; omega
            refine ⟨u, by rw [eg]; exact hE.RA hu1, fun hk => by rw [eg]; exact hE.RP (hu2 hk), hu3, fun j hj => ?_⟩
            rw [hget, if_neg]
            · exact hu4 j hj
            · intro hh
              rcases Nat.lt_or_ge i off with h4 | h4
              · have := idx_lt h4 hj; omega
              · have h5 : (off + len) * s.size ≤ i * s.size := Nat.mul_le_mul_right _ (by omega)
                rw [Nat.add_mul] at h5; omega
      refine ⟨_, _, h, Yield.of (C' := { C with w := World.write C.w (C.β id) (writeAt c (off * s.size) (Builtin.zeroCells zv.cells len).toList) T fz, H := C.H.set id (.row kk s (es.take off ++ (List.replicate len z ++ es.drop (off + len)))) }) (v := .tuple #[]) (run0 _ _ ?_) hE (set_hrep hC hid hl hlen hc hsz' hrow) trivial⟩
      rw [hvv]
      cases len with
      | zero =>
        have hz0 : (Builtin.zeroCells zv.cells 0).toList = [] := List.eq_nil_of_length_eq_zero (by rw [hcl]; omega)
        rw [hz0] at hst
        simp only [storeCells, Sem.run_pure, Result.ok.injEq, true_and] at hst
        simp only [Builtin.clear_, Sem.run_bind, List.getElem?_toArray, List.getElem?_cons_zero, run_und C.w hi.und, Result.andThen_ok, Sem.run_pure]
        rw [hz0, ← hst]
      | succ n =>
        simp only [Builtin.clear_, Sem.run_bind, List.getElem?_toArray, List.getElem?_cons_zero, run_und C.w hi.und, Result.andThen_ok, Sem.run_pure, run_zero C.w hi'.info hzi]
        rw [hst]; rfl
    · obtain ⟨rfl, rfl⟩ := Blk.not_live_row hl
      obtain ⟨ad, hvv, rfl⟩ := hvn hl
      have hset : C.H.set id (.row .vrow s ([].take off ++ (List.replicate 0 z ++ [].drop (off + 0)))) = C.H := by
        apply List.ext_getElem?
        intro i
        rw [List.getElem?_set]
        split
        · rename_i e; subst e
          rw [hid]; simp [hidl]
        · rfl
      rw [hset] at h
      refine ⟨_, _, h, Yield.same hC (v := .tuple #[]) (run0 _ _ ?_) trivial⟩
      rw [hvv]
      cases ad <;> simp [Builtin.clear_, run_und C.w hi.und]
  · exact h.elim

-- maps
omit hC hf in
theorem allLeaf_spec : ∀ {fs : List (Nat × Sh)}, allLeaf fs = true → ∀ p ∈ fs, p.2 = .leaf
  | [], _, p, hp => by cases hp
  | (_, .leaf) :: r, h, p, hp => by
    rcases List.mem_cons.1 hp with rfl | hp
    · rfl
    · exact allLeaf_spec (fs := r) h p hp
  | (_, .agg _) :: r, h, p, hp => by simp [allLeaf] at h

omit hC hf in
theorem eqKinds_leaf {sub : List Field → Option (List Nat)} : ∀ (fs : List Field) (i : Nat) (ks : List Nat), eqKs P sub i fs = some ks → (∀ f ∈ fs, shOf P f.type = .leaf) →
    ks.length = fs.length ∧ ∀ (j : Nat) (f : Field), fs[j]? = some f → f.offset = i + j ∧ ∃ d, P.underlying f.type = some d ∧ (d = .bool ∨ (∃ k, d = .int k) ∨ d = .string)
  | [], i, ks, h, _ => by simp only [eqKs, Option.some.injEq] at h; subst h; simp
  | f :: r, i, ks, h, hl => by
    obtain ⟨hn, hoff, ⟨c, ks', rfl, hk', hc⟩ | ⟨fs, ks1, ks', rfl, hund, hs1, hlen1, hst, hk'⟩⟩ := eqKs_cons h
    · obtain ⟨h1, h2⟩ := eqKinds_leaf r (i + 1) ks' hk' (fun f hf => hl f (List.mem_cons_of_mem _ hf))
      refine ⟨by simp [h1], fun j g hj => ?_⟩
      cases j with
      | zero =>
        simp only [List.getElem?_cons_zero, Option.some.injEq] at hj
        subst hj
        refine ⟨by omega, ?_⟩
        rcases hc with ⟨_, k, hk⟩ | ⟨_, hk⟩ | ⟨_, hk⟩
        · exact ⟨_, hk, .inr (.inl ⟨_, rfl⟩)⟩
        · exact ⟨_, hk, .inr (.inr rfl)⟩
        · exact ⟨_, hk, .inl rfl⟩
      | succ j =>
        obtain ⟨g1, g2⟩ := h2 j g (by simpa using hj)
        exact ⟨by omega, g2⟩
    · have := hl f (List.mem_cons_self ..)
      rw [shOf_eq hund] at this
      simp [isAggD] at this

omit hC hf in
theorem run_checkKey_leaves {kt : TypeId} {fields : Array Field} (hu : P.underlying kt = some (.struct fields)) {cs : Array Value} (hcs : ∀ (j : Nat) (f : Field), fields.toList[j]? = some f → ∃ v, cs[f.offset]? = some v ∧ ∃ d, P.underlying f.type = some d ∧ (d = .bool ∨ (∃ k, d = .int k) ∨ d = .string))
    (em : Bool) (n : Nat) (w : World) : (Instr.checkKey em (n + 2) kt (.agg cs)).run P w = .ok () w := by
  rw [Instr.checkKey]
  simp only [Sem.run_bind, run_und w hu, Result.andThen_ok]
  rw [← Array.forIn_toList]
  have hcs : ∀ f ∈ fields.toList, ∃ v, cs[f.offset]? = some v ∧ ∃ d, P.underlying f.type = some d ∧ (d = .bool ∨ (∃ k, d = .int k) ∨ d = .string) := fun f hf => by
    obtain ⟨j, hj⟩ := List.getElem?_of_mem hf
    exact hcs j f hj
  generalize fields.toList = l at hcs
  induction l with
  | nil => simp
  | cons f r ih =>
    obtain ⟨v, hv, d, hd, hk⟩ := hcs f (List.mem_cons_self ..)
    have hag : isAggD d = false := by rcases hk with rfl | ⟨k, rfl⟩ | rfl <;> rfl
    have hck : (Instr.checkKey em (n + 1) f.type v).run P w = .ok () w := by
      rw [Instr.checkKey]
      simp only [Sem.run_bind, run_und w hd, Result.andThen_ok]
      rcases hk with rfl | ⟨k, rfl⟩ | rfl <;> rfl
    have ih := ih fun f hf => hcs f (List.mem_cons_of_mem _ hf)
    simp only [List.forIn_cons, Sem.run_bind, Sem.run_ite, run_part_leaf hd hag hv, Result.andThen_ok, hck, Sem.run_pure]
    split <;> simpa using ih

omit hC hf in
theorem run_findAsking {kt : TypeId} {ks : List Nat} {G : Nat → Prop} {w0 : World} {kv : Value} {key : AV}
    (heq : ∀ (v : Value) (k : AV) (b : Bool) (w : World), keyEq ks key k = some b → RP w0 G v k → (Op.equal kt kv v).run P w = .ok b w) (w : World) :
    ∀ (me : List MapEntry) (es : List (AV × AV)) (i : Nat), me.length = es.length → (∀ (j : Nat) (h : j < es.length) (h' : j < me.length), RP w0 G me[j].key es[j].1) →
    (∀ (j : Nat) (k v : AV), es[j]? = some (k, v) → keyEq ks key k = some true → (∀ q, q < j → ∀ k' v', es[q]? = some (k', v') → keyEq ks key k' = some false) → ∃ m, me[j]? = some m ∧ (Instr.findAsking kt kv me i).run P w = .ok (some (i + j, m.val)) w) ∧
    ((∀ (j : Nat) (k v : AV), es[j]? = some (k, v) → keyEq ks key k = some false) → (Instr.findAsking kt kv me i).run P w = .ok none w)
  | [], [], i, _, _ => ⟨fun j k v h => by simp at h, fun _ => rfl⟩
  | [], _ :: _, i, h, _ => by simp at h
  | _ :: _, [], i, h, _ => by simp at h
  | m :: me, (k0, v0) :: es, i, hl, hr => by
    obtain ⟨ih1, ih2⟩ := run_findAsking heq w me es (i + 1) (by simpa using hl) (fun j h h' => hr (j + 1) (by simpa using h) (by simpa using h'))
    have h0 := hr 0 (by simp) (by simp)
    simp only [List.getElem_cons_zero] at h0
    refine ⟨fun j k v hj hk hq => ?_, fun hall => ?_⟩
    · cases j with
      | zero =>
        simp only [List.getElem?_cons_zero, Option.some.injEq, Prod.mk.injEq] at hj
        obtain ⟨rfl, rfl⟩ := hj
        exact ⟨m, rfl, by simp only [Instr.findAsking, Sem.run_bind, heq _ _ _ w hk h0, Result.andThen_ok, if_true, Sem.run_pure, Nat.add_zero]⟩
      | succ j =>
        have hk0 := hq 0 (by omega) k0 v0 rfl
        obtain ⟨m', hm, hrun⟩ := ih1 j k v (by simpa using hj) hk (fun q hqj k' v' hh => hq (q + 1) (by omega) k' v' (by simpa using hh))
        refine ⟨m', by simpa using hm, ?_⟩
        simp only [Instr.findAsking, Sem.run_bind, heq _ _ _ w hk0 h0, Result.andThen_ok, Bool.false_eq_true, if_false]
        rw [hrun, show i + 1 + j = i + (j + 1) by omega]
    · have hk0 := hall 0 k0 v0 rfl
      simp only [Instr.findAsking, Sem.run_bind, heq _ _ _ w hk0 h0, Result.andThen_ok, Bool.false_eq_true, if_false]
      exact ih2 fun j k v hj => hall (j + 1) k v (by simpa using hj)

omit hC hf in
theorem run_findKey_struct {kt : TypeId} {fields : Array Field} (hu : P.underlying kt = some (.struct fields)) (kv : Value) (me : List MapEntry) (w : World) : (Instr.findKey kt kv me).run P w = (Instr.findAsking kt kv me).run P w := by
  cases me with
  | nil => simp [Instr.findKey, run_und w hu, Instr.findNow, Instr.findAsking]
  | cons e r => simp [Instr.findKey, run_und w hu, Instr.findNow, Instr.sameNow]

omit hC hf in
theorem run_zero' {t : TypeId} {i : TypeInfo} {z : Value} (h : P.info? t = some i) (hz : i.zero = some z) (w : World) : (zeroValue t).run P w = .ok z w := run_zero w h hz

/-- What a key's type tells. -/
structure KeyT (P : Program) (kt : TypeId) (ks : List Nat) : Prop where
  fields : ∃ fields, P.underlying kt = some (.struct fields) ∧ eqKinds P 0 fields.toList = some ks ∧ P.stoodInHeld kt = false ∧ ∀ f ∈ fields.toList, shOf P f.type = .leaf

omit hC hf in
theorem keyT {kt : TypeId} {ti : TI} {fs : List (Nat × Sh)} {ks : List Nat} (h : tget Γ.tbl kt = some ti) (hk : ti.kind = .struct fs (some ks)) (hl : allLeaf fs = true) : KeyT P kt ks := by
  obtain ⟨i, d, hi⟩ := Γ.info h
  obtain ⟨fields, rfl, hfs, heq, _⟩ := hi.struct hk
  split at heq
  · rename_i hok
    simp only [Bool.and_eq_true, Bool.not_eq_true'] at hok
    refine ⟨fields, hi.und, heq.symm, hok.1, fun f hf => ?_⟩
    subst hfs
    exact allLeaf_spec hl (f.offset, shOf P f.type) (List.mem_map.2 ⟨f, hf, rfl⟩)
  · cases heq

omit hC hf in
theorem KeyT.equal {kt : TypeId} {ks : List Nat} (h : KeyT P kt ks) {w0 : World} {G : Nat → Prop} {u v : Value} {x y : AV} {b : Bool} (hb : keyEq ks x y = some b) (hu : RP w0 G u x) (hv : RP w0 G v y) (w : World) :
    (Op.equal kt u v).run P w = .ok b w := by
  obtain ⟨fields, hund, hek, hst, _⟩ := h.fields
  unfold keyEq at hb
  split at hb
  · split at hb
    · rename_i _ xs _ ys
      cases hu with
      | agg us cs hus hur huo =>
      cases hv with
      | agg vs ds hvs hvr hvo =>
      have hF : P.fieldsOf kt = fields := by simp [Program.fieldsOf, hund]
      have hrun := run_equalIn_struct (P := P) w 9999 kt us vs (by rw [hF]; exact hund) hst
      rw [hF, allEqA_snd (P := P) 9996 w0 G w fields.toList ks us vs xs ys b hek hb
        (fun j hj => ⟨us.getD j undef, by simp [Array.getD_eq_getD_getElem?, Array.getElem?_eq_getElem (show j < us.size by omega)], fun _ => hur j hj⟩)
        (fun j hj => ⟨vs.getD j undef, by simp [Array.getD_eq_getD_getElem?, Array.getElem?_eq_getElem (show j < vs.size by omega)], fun _ => hvr j hj⟩)] at hrun
      exact hrun
    · cases hb
  · cases hb

omit hC hf in
theorem KeyT.check {kt : TypeId} {ks : List Nat} (h : KeyT P kt ks) {w0 : World} {G : Nat → Prop} {u : Value} {xs : List AV} (hl : xs.length = ks.length) (hu : RP w0 G u (.agg xs)) (em : Bool) (w : World) : (Instr.checkKey em 10000 kt u).run P w = .ok () w := by
  obtain ⟨fields, hund, hek, hst, hlf⟩ := h.fields
  obtain ⟨h1, h2⟩ := eqKinds_leaf _ _ _ hek hlf
  cases hu with
  | agg us cs hus hur huo =>
  refine run_checkKey_leaves (n := 9998) hund (fun j f hj => ?_) em w
  obtain ⟨h3, h4⟩ := h2 j f hj
  have hjl := (List.getElem?_eq_some_iff.1 hj).1
  rw [h3, Nat.zero_add]
  exact ⟨us[j]'(by omega), Array.getElem?_eq_getElem (by omega), h4⟩

omit hC hf in
theorem keyEq_agg {ks : List Nat} {x y : AV} {b : Bool} (h : keyEq ks x y = some b) : ∃ xs ys, x = .agg xs ∧ y = .agg ys ∧ xs.length = ks.length := by
  unfold keyEq at h
  split at h
  · split at h
    · exact ⟨_, _, rfl, rfl, (allEqA_len _ _ _ _ h).1⟩
    · cases h
  · cases h

omit hC hf in
theorem allEqA_bits {w0 : World} {G : Nat → Prop} (n : Nat) : ∀ (ks : List Nat) (xs ys : List AV) (us vs : List Value), allEqA ks xs ys = some true → us.length = xs.length → vs.length = ys.length →
    (∀ (j : Nat) (h : j < xs.length) (h' : j < us.length), RP w0 G us[j] xs[j]) → (∀ (j : Nat) (h : j < ys.length) (h' : j < vs.length), RP w0 G vs[j] ys[j]) → ((us.zip vs).all fun (x, y) => Instr.sameBits n x y) = true
  | [], xs, ys, us, vs, h, h1, h2, _, _ => by
    cases xs <;> cases ys <;> simp [allEqA] at h
    cases us <;> cases vs <;> simp at h1 h2 ⊢
  | c :: ks, xs, ys, us, vs, h, h1, h2, hu, hv => by
    cases xs with
    | nil => cases ys <;> simp [allEqA] at h
    | cons x xs =>
    cases ys with
    | nil => simp [allEqA] at h
    | cons y ys =>
    cases us with
    | nil => simp at h1
    | cons u us =>
    cases vs with
    | nil => simp at h2
    | cons v vs =>
      simp only [allEqA] at h
      split at h
      · rename_i c1 hc1
        split at h
        · rename_i d1 hd1
          simp only [Option.some.injEq, Bool.and_eq_true] at h
          obtain ⟨rfl, rfl⟩ := h
          have ih := allEqA_bits n ks xs ys us vs hd1 (by simpa using h1) (by simpa using h2) (fun j h h' => hu (j + 1) (by simpa using h) (by simpa using h')) (fun j h h' => hv (j + 1) (by simpa using h) (by simpa using h'))
          have u0 := hu 0 (by simp) (by simp)
          have v0 := hv 0 (by simp) (by simp)
          simp only [List.getElem_cons_zero] at u0 v0
          simp only [List.zip_cons_cons, List.all_cons, ih, Bool.and_true]
          unfold leafEqA at hc1
          split at hc1
          · split at hc1
            · rename_i hkb
              have := kindBeq_eq hkb; subst this
              cases u0; cases v0
              simp at hc1; simp [Instr.sameBits, hc1]
            · cases hc1
          · cases u0; cases v0
            rename_i a b
            simp only [Option.some.injEq, decide_eq_true_eq] at hc1
            have : a = b := by
              cases a; cases b; simp at hc1; simp [hc1]
            subst this
            simp [Instr.sameBits, MapKept.bytes_beq]
          · cases u0; cases v0
            simp at hc1; simp [Instr.sameBits, hc1]
          · cases hc1
        · cases h
      · cases h

omit hC hf in
theorem allEqA_symm : ∀ (ks : List Nat) (xs ys : List AV) {b : Bool}, allEqA ks xs ys = some b → allEqA ks ys xs = some b
  | [], xs, ys, b, h => by cases xs <;> cases ys <;> simp [allEqA] at h ⊢; exact h
  | c :: ks, xs, ys, b, h => by
    cases xs with
    | nil => cases ys <;> simp [allEqA] at h
    | cons x xs =>
    cases ys with
    | nil => simp [allEqA] at h
    | cons y ys =>
      simp only [allEqA] at h ⊢
      split at h
      · rename_i c1 hc1
        split at h
        · rename_i d1 hd1
          have h1 : leafEqA c y x = some c1 := by
            unfold leafEqA at hc1
            split at hc1
            · split at hc1
              · rename_i hkb
                have := kindBeq_eq hkb; subst this
                simp only [leafEqA, hkb, Option.some.injEq] at hc1 ⊢
                rw [← hc1]; exact decide_eq_decide.2 eq_comm
              · cases hc1
            · simp only [leafEqA, Option.some.injEq] at hc1 ⊢
              rw [← hc1]; exact decide_eq_decide.2 eq_comm
            · simp only [leafEqA, Option.some.injEq] at hc1 ⊢
              rw [← hc1]; exact Bool.beq_comm
            · cases hc1
          rw [h1, allEqA_symm ks xs ys hd1]
          exact h
        · cases h
      · cases h

omit hC hf in
theorem run_stays {ks : List Nat} {x y : AV} {w0 : World} {G : Nat → Prop} {u v : Value} (h : keyEq ks x y = some true) (hu : RP w0 G u x) (hv : RP w0 G v y) (w : World) : (Instr.keyThatStays v u).run P w = .ok u w := by
  have hb : Instr.sameBits 10000 v u = true := by
    unfold keyEq at h
    split at h
    · split at h
      · rename_i _ xs _ ys
        cases hu with
        | agg us cs hus hur huo =>
        cases hv with
        | agg vs ds hvs hvr hvo =>
        obtain ⟨hl1, hl2⟩ := allEqA_len _ _ _ _ h
        have := allEqA_bits (w0 := w0) (G := G) 9999 ks xs ys us.toList vs.toList h (by simpa using hus) (by simpa using hvs)
          (fun j h h' => by have := hur j h; simp only [Array.length_toList] at h'; simpa [Array.getD_eq_getD_getElem?, Array.getElem?_eq_getElem h'] using this)
          (fun j h h' => by have := hvr j h; simp only [Array.length_toList] at h'; simpa [Array.getD_eq_getD_getElem?, Array.getElem?_eq_getElem h'] using this)
        have h2 := allEqA_bits (w0 := w0) (G := G) 9999 ks ys xs vs.toList us.toList (allEqA_symm _ _ _ h) (by simpa using hvs) (by simpa using hus)
          (fun j h h' => by have := hvr j h; simp only [Array.length_toList] at h'; simpa [Array.getD_eq_getD_getElem?, Array.getElem?_eq_getElem h'] using this)
          (fun j h h' => by have := hur j h; simp only [Array.length_toList] at h'; simpa [Array.getD_eq_getD_getElem?, Array.getElem?_eq_getElem h'] using this)
        show (vs.size == us.size && (vs.toList.zip us.toList).all fun (x, y) => Instr.sameBits 9999 x y) = true
        rw [h2, hvs, hus, hl1, hl2]; simp
      · cases h
    · cases h
  simp [Instr.keyThatStays, hb]

/-- A map's block: what is found. -/
theorem map_find {kt : TypeId} {ks : List Nat} (hK : KeyT P kt ks) {id : Nat} {es : List (AV × AV)} (hid : C.H[id]? = some (.map es)) {kv : Value} {key : AV} (hkv : RP C.w C.G kv key) (hlen : ∀ xs, key = .agg xs → xs.length = ks.length) (hag : ∃ xs, key = .agg xs)
    {T : Nat → AV → Prop} {E : Prop} (h : NFind ks es key T E) :
    ∃ (me : Array MapEntry) (clock : Nat), C.w.heap[C.β id]? = some (.map me clock) ∧ me.size = es.length ∧ (∀ (i : Nat) (h : i < es.length), ∃ m, me[i]? = some m ∧ RP C.w C.G m.key es[i].1 ∧ RP C.w C.G m.val es[i].2) ∧
      ((∃ (i : Nat) (k v : AV) (m : MapEntry), es[i]? = some (k, v) ∧ keyEq ks key k = some true ∧ T i v ∧ me[i]? = some m ∧ RP C.w C.G m.key k ∧ RP C.w C.G m.val v ∧ ∀ w, (Instr.findKey kt kv me.toList).run P w = .ok (some (i, m.val)) w) ∨
       (E ∧ ∀ w, (Instr.findKey kt kv me.toList).run P w = .ok none w)) := by
  have _ := hf
  obtain ⟨me, clock, hc, hsz, hel⟩ := hC.map id es hid
  refine ⟨me, clock, hc, hsz, hel, ?_⟩
  obtain ⟨fields, hund, _⟩ := hK.fields
  have hfa := fun w => run_findAsking (P := P) (kt := kt) (ks := ks) (G := C.G) (w0 := C.w) (kv := kv) (key := key) (fun v k b w hb hv => hK.equal hb hkv hv w) w me.toList es 0 (by simpa using hsz) (fun j hj h' => by
    obtain ⟨m, hm, hk, _⟩ := hel j hj
    obtain ⟨_, e⟩ := Array.getElem?_eq_some_iff.1 hm
    simp only [Array.getElem_toList, e]; exact hk)
  cases h with
  | hit i k v hi he ha hn =>
    have hlt := (List.getElem?_eq_some_iff.1 hi).1
    obtain ⟨m, hm, hk, hv⟩ := hel i hlt
    have hie := (List.getElem?_eq_some_iff.1 hi).2
    rw [hie] at hk hv
    refine .inl ⟨i, k, v, m, hi, he, hn, hm, hk, hv, fun w => ?_⟩
    obtain ⟨m', hm', hrun⟩ := (hfa w).1 i k v hi he ha
    rw [Array.getElem?_toList, hm] at hm'
    cases hm'
    rw [run_findKey_struct hund, hrun, Nat.zero_add]
  | miss ha hn =>
    refine .inr ⟨hn, fun w => ?_⟩
    rw [run_findKey_struct hund]
    exact (hfa w).2 ha

omit hC hf in
theorem keyAgg_elim {ks : List Nat} {x : AV} {k : AV → Prop} (h : keyAgg ks x k) : ∃ cs, x = .agg cs ∧ cs.length = ks.length ∧ k (.agg cs) := by
  unfold keyAgg at h
  split at h
  · split at h
    · rename_i hb; exact ⟨_, rfl, Nat.eq_of_beq_eq_true hb, h⟩
    · exact h.elim
  · exact h.elim

theorem snd_lookup {t : TypeId} {x ix : Operand} {ok : Bool} (ho : o.op = .lookup t x ix ok) (h : aop Γ fr (.lookup t x ix ok) C.H next) : Snd P o a C next := by
  simp only [aop] at h
  have hx := hf.ev x
  have hix := hf.ev ix
  split at h
  case h_2 => exact h.elim
  rename_i sh0 by0 kt et z0 hti
  obtain ⟨i, d, hi⟩ := Γ.info hti
  have hd := hi.map rfl; subst hd
  split at h
  case h_2 => exact h.elim
  rename_i shk byk fs ks zk htk
  split at h
  case h_2 => exact h.elim
  rename_i sh by' kd z hte
  obtain ⟨i', d', hi'⟩ := Γ.info hte
  split at h
  case h_2 => exact h.elim
  rename_i id hxe
  rw [hxe] at hx
  split at h
  case h_2 => exact h.elim
  rename_i hck
  simp only [Bool.and_eq_true] at hck
  obtain ⟨hz, hpk, hlf⟩ := hck
  split at h
  case h_2 => exact h.elim
  rename_i es hid
  have hK := keyT Γ htk rfl hlf
  have hkv := (hix.RA (fun vs e => by rw [e] at hpk; simp [AV.pure, AV.pure1] at hpk)).pure hpk
  have hxv : a.eval x = .map (some (C.β id)) := hx.2.2 es hid
  obtain ⟨zv, hzi, hze⟩ := hi'.zeroOk (sh := sh) hz
  have hze : avOfA zv = z := hze
  have hrt : RT C zv z := hze ▸ RT_avOfA zv
  have hznt : ∀ vs, z ≠ .tup vs := isSh.notTup hz
  have run : ∀ {me : Array MapEntry} {clock : Nat} {r : Option (Nat × Value)} {cs : List AV}, C.w.heap[C.β id]? = some (.map me clock) → (∀ w, (Instr.findKey kt (a.eval ix) me.toList).run P w = .ok r w) → ev fr ix = .agg cs → cs.length = ks.length →
      (execOp a.eval o).run P C.w = .ok (.value (if ok then .tuple #[(match r with | some (_, v) => v | none => zv), .bool r.isSome] else (match r with | some (_, v) => v | none => zv))) C.w := by
    intro me clock r xs hc hfk hxs hxl
    have hck := hK.check (P := P) (w0 := C.w) (G := C.G) hxl (hxs ▸ hkv) me.isEmpty C.w
    simp only [execOp, ho, hxv]
    simp only [Instr.lookup, Sem.run_bind, run_und C.w hi.und, Result.andThen_ok, MapKept.run_getObj_map hc, Sem.run_pure, hck, hfk C.w]
    cases r with
    | none => cases ok <;> simp [run_zero C.w hi'.info hzi]
    | some p => cases ok <;> simp
  have nt : ∀ {v : Value} {x : AV}, RP C.w C.G v x → ∀ vs, x ≠ .tup vs := fun h vs e => by subst e; cases h
  split at h
  · obtain ⟨cs, hcs, hcl, h⟩ := keyAgg_elim h
    rw [hcs] at hkv
    obtain ⟨me, clock, hc, _, _, hit⟩ := map_find hC hf hK hid hkv (fun xs e => by cases e; exact hcl) ⟨_, rfl⟩ h
    rcases hit with ⟨i, k, v, m, hi1, he, hn, hm, hmk, hmv, hfk⟩ | ⟨hn, hfk⟩
    · rw [force_eq] at hn
      refine ⟨_, _, hn, Yield.same hC (v := .tuple #[m.val, .bool true]) ?_ ?_⟩
      · exact run hc hfk hcs hcl
      · refine ⟨#[m.val, .bool true], rfl, rfl, fun i hi => ?_⟩
        match i, hi with
        | 0, _ => exact (hmv.RT).RA (nt hmv)
        | 1, _ => exact (RP.bool (w := C.w) (G := C.G) true).RA
    · refine ⟨_, _, hn, Yield.same hC (v := .tuple #[zv, .bool false]) ?_ ?_⟩
      · exact run hc hfk hcs hcl
      · refine ⟨#[zv, .bool false], rfl, rfl, fun i hi => ?_⟩
        match i, hi with
        | 0, _ => exact hrt.RA hznt
        | 1, _ => exact (RP.bool (w := C.w) (G := C.G) false).RA
  · obtain ⟨cs, hcs, hcl, h⟩ := keyAgg_elim h
    rw [hcs] at hkv
    obtain ⟨me, clock, hc, _, _, hit⟩ := map_find hC hf hK hid hkv (fun xs e => by cases e; exact hcl) ⟨_, rfl⟩ h
    rcases hit with ⟨i, k, v, m, hi1, he, hn, hm, hmk, hmv, hfk⟩ | ⟨hn, hfk⟩
    · rw [force_eq] at hn
      exact ⟨_, _, hn, Yield.same hC (v := m.val) (run hc hfk hcs hcl) hmv.RT⟩
    · exact ⟨_, _, hn, Yield.same hC (v := zv) (run hc hfk hcs hcl) hrt⟩

-- a map is written
omit hf in
theorem mset_ext {id : Nat} {es es' : List (AV × AV)} (hid : C.H[id]? = some (.map es)) (me' : Array MapEntry) (clock' : Nat) :
    Ext C { C with w := { C.w with heap := C.w.heap.setIfInBounds (C.β id) (.map me' clock') }, H := C.H.set id (.map es') } where
  F := rfl
  os := rfl
  tape := rfl
  output := rfl
  size := by simp
  len := by simp
  beta := fun _ _ => rfl
  keep := fun b hb ho => by
    have : C.β id ≠ b := fun e => ho ⟨id, _, hid, trivial, e⟩
    simp [Array.getElem?_setIfInBounds_ne this]
  fresh := fun i m hi hm _ => by
    have := (List.getElem?_eq_some_iff.1 hm).1
    simp at this
    omega
  rows := fun i kk s es2 _ he => by
    dsimp only at he
    rw [List.getElem?_set] at he
    split at he
    · split at he <;> simp at he
    · rename_i e
      refine ⟨es2, he, rfl, fun hl2 => ?_⟩
      obtain ⟨c2, T2, fr2, hc2, _⟩ := hC.row i kk s es2 he hl2
      have : C.β id ≠ C.β i := fun h => e (hC.inj id i _ _ hid he trivial hl2 h)
      exact ⟨c2, T2, fr2, c2, T2, fr2, hc2, by simp [Array.getElem?_setIfInBounds_ne this, hc2], rfl⟩
  maps := fun i es2 hi he => by
    dsimp only at he
    rw [List.getElem?_set] at he
    split at he
    · rename_i e; subst e; exact ⟨es, hid⟩
    · exact ⟨es2, he⟩
  ros := fun i sh2 es2 _ he => by
    dsimp only at he
    rw [List.getElem?_set] at he
    split at he
    · split at he <;> simp at he
    · exact .inl he

omit hf in
theorem mset_hrep {id : Nat} {es es' : List (AV × AV)} (hid : C.H[id]? = some (.map es)) {me' : Array MapEntry} {clock' : Nat} (hsz : me'.size = es'.length)
    (hel : ∀ (i : Nat) (h : i < es'.length), ∃ m, me'[i]? = some m ∧ RP C.w C.G m.key es'[i].1 ∧ RP C.w C.G m.val es'[i].2) :
    HRep { C with w := { C.w with heap := C.w.heap.setIfInBounds (C.β id) (.map me' clock') }, H := C.H.set id (.map es') } := by
  have hE := mset_ext hC (es' := es') hid me' clock'
  have hlt := hC.lt hid trivial
  have old : ∀ {i : Nat} {m : Blk}, (C.H.set id (.map es'))[i]? = some m → (i = id ∧ m = .map es') ∨ (i ≠ id ∧ C.H[i]? = some m) := by
    intro i m hm
    rw [List.getElem?_set] at hm
    split at hm
    · rename_i e; subst e
      split at hm
      · have hm := Option.some.inj hm
        exact .inl ⟨rfl, hm.symm⟩
      · cases hm
    · rename_i e; exact .inr ⟨fun h => e h.symm, hm⟩
  have oldl : ∀ {i : Nat} {m : Blk}, (C.H.set id (.map es'))[i]? = some m → m.live → ∃ m0, C.H[i]? = some m0 ∧ m0.live := by
    intro i m hm hlm
    rcases old hm with ⟨rfl, rfl⟩ | ⟨_, h⟩
    · exact ⟨_, hid, trivial⟩
    · exact ⟨m, h, hlm⟩
  refine ⟨?_, ?_, ?_, ?_, ?_, ?_⟩
  · intro i j m n hi hj hlm hln hb
    obtain ⟨m0, h1, h2⟩ := oldl hi hlm
    obtain ⟨n0, h3, h4⟩ := oldl hj hln
    exact hC.inj i j m0 n0 h1 h3 h2 h4 hb
  · intro i m hi hlm
    obtain ⟨m0, h1, h2⟩ := oldl hi hlm
    exact hC.notF i m0 h1 h2
  · intro b hb
    simpa using hC.Flt b hb
  · intro i kk s es2 he
    rcases old he with ⟨rfl, h⟩ | ⟨_, h⟩
    · cases h
    · exact hC.sz i kk s es2 h
  · intro i kk s es2 he hl2
    rcases old he with ⟨rfl, h⟩ | ⟨e, h⟩
    · cases h
    · have hr : RowAt C (C.β i) kk s es2 := hC.row i kk s es2 h hl2
      have : C.β id ≠ C.β i := fun hb => e (hC.inj id i _ _ hid h trivial hl2 hb).symm
      exact hr.ext hE (by simp [Array.getElem?_setIfInBounds_ne this])
  · intro i es2 he
    rcases old he with ⟨rfl, h⟩ | ⟨e, h⟩
    · cases h
      refine ⟨me', clock', by simp [hlt], hsz, fun i hi => ?_⟩
      obtain ⟨m, h1, h2, h3⟩ := hel i hi
      exact ⟨m, h1, hE.RP h2, hE.RP h3⟩
    · have hr : MapAt C (C.β i) es2 := hC.map i es2 h
      have : C.β id ≠ C.β i := fun hb => e (hC.inj id i _ _ hid h trivial trivial hb).symm
      exact hr.ext hE (by simp [Array.getElem?_setIfInBounds_ne this])

theorem snd_mapUpdate {t : TypeId} {x ix y : Operand} (ho : o.op = .mapUpdate t x ix y) (h : aop Γ fr (.mapUpdate t x ix y) C.H next) : Snd P o a C next := by
  simp only [aop] at h
  have hx := hf.ev x
  have hix := hf.ev ix
  have hy := hf.ev y
  split at h
  case h_2 => exact h.elim
  rename_i sh0 by0 kt et z0 hti
  obtain ⟨i, d, hi⟩ := Γ.info hti
  have hd := hi.map rfl; subst hd
  split at h
  case h_2 => exact h.elim
  rename_i shk byk fs ks zk htk
  split at h
  case h_2 => exact h.elim
  rename_i id hxe
  rw [hxe] at hx
  split at h
  case h_2 => exact h.elim
  rename_i hck
  simp only [Bool.and_eq_true] at hck
  obtain ⟨hpk, hpy, hlf⟩ := hck
  split at h
  case h_2 => exact h.elim
  rename_i es hid
  have hK := keyT Γ htk rfl hlf
  have ntp : ∀ {x : AV}, x.pure = true → ∀ vs, x ≠ .tup vs := fun h vs e => by rw [e] at h; simp [AV.pure, AV.pure1] at h
  have hkv := (hix.RA (ntp hpk)).pure hpk
  have hyv := (hy.RA (ntp hpy)).pure hpy
  have hxv : a.eval x = .map (some (C.β id)) := hx.2.2 es hid
  obtain ⟨cs, hcs, hcl, h⟩ := keyAgg_elim h
  rw [force_eq] at h
  rw [hcs] at hkv
  obtain ⟨me, clock, hc, hsz, hel, hit⟩ := map_find hC hf hK hid hkv (fun xs e => by cases e; exact hcl) ⟨_, rfl⟩ h
  have hck := hK.check (P := P) (w0 := C.w) (G := C.G) hcl hkv false C.w
  rcases hit with ⟨i, k, v, m, hi1, he, hn, hm, hmk, hmv, hfk⟩ | ⟨hn, hfk⟩
  · have hst := run_stays (P := P) he hkv hmk C.w
    refine ⟨_, _, hn, Yield.skip (C' := { C with w := { C.w with heap := C.w.heap.setIfInBounds (C.β id) (.map (me.modify i fun e => { e with key := a.eval ix, val := a.eval y }) clock) }, H := C.H.set id (.map (es.set i (.agg cs, ev fr y))) }) ?_ (mset_ext hC hid _ _) (mset_hrep hC hid (by simp [hsz]) fun j hj => ?_)⟩
    · simp only [execOp, ho, hxv]
      simp only [Instr.mapUpdate, Sem.run_bind, run_und C.w hi.und, Result.andThen_ok, MapKept.run_getObj_map hc, hck, hfk C.w, hm, Option.map_some, Option.getD_some, hst, MapKept.run_setObj_map _ hc, Sem.run_pure]
    · simp only [List.length_set] at hj
      obtain ⟨q, h1, h2, h3⟩ := hel j hj
      rw [Array.getElem?_modify]
      by_cases hij : i = j
      · subst hij
        simp only [if_true, h1, Option.map_some, List.getElem_set_self]
        exact ⟨_, rfl, hkv, hyv⟩
      · rw [if_neg hij]
        simp only [List.getElem_set_ne hij]
        exact ⟨q, h1, h2, h3⟩
  · refine ⟨_, _, hn, Yield.skip (C' := { C with w := { C.w with heap := C.w.heap.setIfInBounds (C.β id) (.map (me.push { key := a.eval ix, val := a.eval y, born := clock }) (clock + 1)) }, H := C.H.set id (.map (es ++ [(.agg cs, ev fr y)])) }) ?_ (mset_ext hC hid _ _) (mset_hrep hC hid (by simp [hsz]) fun j hj => ?_)⟩
    · simp only [execOp, ho, hxv]
      simp only [Instr.mapUpdate, Sem.run_bind, run_und C.w hi.und, Result.andThen_ok, MapKept.run_getObj_map hc, hck, hfk C.w, MapKept.run_setObj_map _ hc, Sem.run_pure]
    · simp only [List.length_append, List.length_cons, List.length_nil] at hj
      by_cases hlt : j < es.length
      · obtain ⟨q, h1, h2, h3⟩ := hel j hlt
        rw [Array.getElem?_push, if_neg (by omega)]
        simp only [List.getElem_append_left hlt]
        exact ⟨q, h1, h2, h3⟩
      · have : j = es.length := by omega
        subst this
        rw [Array.getElem?_push, if_pos hsz.symm]
        simp only [List.getElem_append_right (Nat.le_refl _), Nat.sub_self, List.getElem_cons_zero]
        exact ⟨_, rfl, hkv, hyv⟩
end
end Go.Bv
