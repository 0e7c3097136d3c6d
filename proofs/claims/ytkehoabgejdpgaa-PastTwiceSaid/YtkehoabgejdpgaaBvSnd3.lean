/- Part of the lift: an abstract walk of the program's code, proved sound, and what it shows of this program. -/
import Derived.Test.YtkehoabgejdpgaaBvSnd2
import Derived.Laws.Slices
namespace Go.Bv
open Go

section
variable {P : Program} (Γ : Tab P) {C : Ctx} (hC : HRep C) {a : Act} {fr : Fr} (hf : FrOk C a fr) {o : Oper} {next : AV → List Blk → Prop}
include hC hf

theorem snd_unOp {op : UnOp} {t : TypeId} {x : Operand} (ho : o.op = .unOp op t x) (h : aop Γ fr (.unOp op t x) C.H next) : Snd P o a C next := by
  simp only [aop] at h
  have hx := hf.ev x
  unfold aopUn at h
  split at h
  · split at h
    · rename_i b hxe
      rw [hxe] at hx
      have hx := hx.bool
      rcases h.elim with ⟨e, g⟩ | ⟨e, g⟩ <;> subst e <;>
        exact ⟨_, _, g, Yield.same hC (by simp only [execOp, ho, hx, Op.unary]; rfl) (RP.bool (w := C.w) (G := C.G) _).RT⟩
    · exact h.elim
  · split at h
    · rename_i k n hxe
      rw [hxe] at hx
      have hx := hx.int
      obtain ⟨z, rfl, g⟩ := h
      exact ⟨_, _, g, Yield.same hC (by simp only [execOp, ho, hx, Op.unary, Op.intArith]; rfl) (RP.int (w := C.w) (G := C.G) _ _).RT⟩
    · exact h.elim
  · split at h
    · rename_i k n hxe
      rw [hxe] at hx
      have hx := hx.int
      exact ⟨_, _, h, Yield.same hC (by simp only [execOp, ho, hx, Op.unary, Op.intBits]; rfl) (RP.int (w := C.w) (G := C.G) _ _).RT⟩
    · exact h.elim
  · exact h.elim

theorem snd_extract {x : Operand} {i : Nat} (ho : o.op = .extract x i) (h : aop Γ fr (.extract x i) C.H next) : Snd P o a C next := by
  simp only [aop] at h
  have hx := hf.ev x
  split at h
  · rename_i vs hxe
    rw [hxe] at hx
    obtain ⟨us, hu, hsz, hc⟩ := hx
    split at h
    · rename_i r hr
      rw [force_eq] at h
      obtain ⟨hlt, hr'⟩ := List.getElem?_eq_some_iff.1 hr
      have hi : us[i]? = some (us.getD i undef) := by simp [Array.getD_eq_getD_getElem?, Array.getElem?_eq_getElem (show i < us.size by omega)]
      have hra := hc i hlt
      rw [hr'] at hra
      by_cases ht : ∃ ws, r = .tup ws
      · obtain ⟨ws, rfl⟩ := ht
        exact hra.elim
      · refine ⟨_, _, h, Yield.same hC (v := us.getD i undef) (by simp only [execOp, ho, hu, Instr.extract, hi, Sem.run_bind, Sem.run_pure, Result.andThen_ok]) ?_⟩
        cases r <;> first | exact hra | exact absurd ⟨_, rfl⟩ ht
    · exact h.elim
  · exact h.elim

omit hC hf in
theorem evArgs_elim : ∀ (l : List Operand) (k : List AV → Prop), evArgs fr l k → k (l.map (ev fr))
  | [], k, h => h
  | x :: r, k, h => by
    simp only [evArgs_cons] at h
    rw [force_eq] at h
    exact evArgs_elim r _ h

omit hC hf in
theorem evArgsT_elim {H : List Blk} : ∀ (l : List Operand) (k : List AV → Prop), evArgsT fr H l k → k (l.map fun x => thaw H (ev fr x))
  | [], k, h => h
  | x :: r, k, h => by
    simp only [evArgsT_cons] at h
    rw [forceT_eq] at h
    exact evArgsT_elim r _ h

theorem snd_makeFunc {f : Fn} {first caps : Array Operand} (ho : o.op = .makeFunc f first caps) (h : aop Γ fr (.makeFunc f first caps) C.H next)
 : Snd P o a C next := by
  simp only [aop] at h
  split at h
  · rename_i g
    split at h
    · rename_i hfst
      have h := evArgs_elim _ _ h
      have hfst : first = #[] := by apply Array.ext'; simpa using hfst
      subst hfst
      split at h
      case h_2 => exact h.elim
      rename_i hall
      rw [List.all_eq_true] at hall
      refine ⟨_, _, h, Yield.same hC (v := .func (.func g) #[] (caps.map a.eval)) (by simp only [execOp, ho, Instr.makeFunc, Sem.run_bind, Sem.run_pure, Result.andThen_ok, Array.map_empty]) ?_⟩
      refine ⟨caps.map a.eval, rfl, by simp, fun i hi => ?_⟩
      simp only [List.length_map, Array.length_toList] at hi
      simp only [List.getElem_map, Array.getElem_toList, Array.getD_eq_getD_getElem?, Array.getElem?_map, Array.getElem?_eq_getElem hi, Option.map_some, Option.getD_some]
      have h1 := hall (ev fr caps[i]) (List.mem_map.2 ⟨_, by rw [Array.mem_toList_iff]; exact Array.getElem_mem hi, rfl⟩)
      have h2 := hf.ev caps[i]
      generalize ev fr caps[i] = q at h1 h2
      cases q <;> first | exact h2 | (simp [AV.leafy] at h1)
    · exact h.elim
  · exact h.elim

-- parts
omit hC hf in
theorem R1_slice {C : Ctx} {vs : Array Value} {cs : List AV} (hsz : vs.size = cs.length) (hc : ∀ (i : Nat) (h : i < cs.length), R1 C (vs.getD i undef) cs[i])
    (ho : ∀ (i : Nat) (x : Value), vs[i]? = some x → x.oneCell' = true) (off n : Nat) (h : off + n ≤ cs.length) : RA C (.agg (vs.extract off (off + n))) (.agg ((cs.drop off).take n)) := by
  refine ⟨_, rfl, by simp; omega, fun i hi => ?_, fun i x hx => ?_⟩
  · simp at hi
    have e : (vs.extract off (off + n)).getD i undef = vs.getD (off + i) undef := by
      simp only [Array.getD_eq_getD_getElem?, Array.getElem?_extract]
      rw [if_pos (by omega)]
    rw [e]
    simp only [List.getElem_take, List.getElem_drop]
    exact hc (off + i) (by omega)
  · rw [Array.getElem?_extract] at hx
    split at hx
    · exact ho _ x hx
    · simp at hx

omit hC hf in
theorem shOf_eq {t : TypeId} {d : TypeDesc} (h : P.underlying t = some d) : shOf P t = if isAggD d then .agg (P.cellsOf t) else .leaf := by
  simp [shOf, h]

omit hC hf in
theorem cellsOf_eq {t : TypeId} {i : TypeInfo} (h : P.info? t = some i) : P.cellsOf t = i.size := by simp [Program.cellsOf, h]

omit hC hf in
theorem und_info {t : TypeId} {d : TypeDesc} (h : P.underlying t = some d) : ∃ i, P.info? t = some i := by
  unfold Program.underlying at h
  cases hi : P.info? t with
  | none => rw [hi] at h; simp at h
  | some i => exact ⟨i, rfl⟩

omit hC hf in
theorem RP.at_inv {w : World} {G : Nat → Prop} {u : Value} {s : Sh} {e : AV} {k : Nat} (h : RP w G u (.at s e k)) : ∃ b o v, u = .pointer (some ⟨b, o + k, none⟩) ∧ G b ∧ RP w G v e ∧ okSh v s ∧
    ∀ j, j < s.size → w.cell? ⟨b, o + j, none⟩ = v.cells[j]? := by
  cases h with
  | «at» sh b o k v x hb hr hs hcell => exact ⟨b, o, v, rfl, hb, hr, hs, hcell⟩

/-- The type of a field: what the run asks of it. -/
theorem snd_field {t : TypeId} {x : Operand} {f : Nat} (ho : o.op = .field t x f) (h : aop Γ fr (.field t x f) C.H next) : Snd P o a C next := by
  simp only [aop] at h
  have hx := hf.ev x
  split at h
  · rename_i sh by' fs eqs ze hti
    obtain ⟨i, d, hi⟩ := Γ.info hti
    obtain ⟨fields, rfl, hfs, _, hu⟩ := hi.struct rfl
    split at h
    · rename_i off fsh hfo
      rw [hfs, List.getElem?_map, Option.map_eq_some_iff] at hfo
      obtain ⟨fl, hfl, hfo⟩ := hfo
      rw [Array.getElem?_toList] at hfl
      obtain ⟨d', hd', hd1⟩ := hu fl (by rw [Array.mem_toList_iff]; exact Array.mem_of_getElem? hfl)
      obtain ⟨i', hi'⟩ := und_info hd'
      obtain ⟨rfl, rfl⟩ := Prod.mk.inj hfo
      split at h
      · rename_i cs hxe
        rw [hxe] at hx
        obtain ⟨us, hus, hsz, hc, hone⟩ := hx.agg
        rw [shOf_eq hd'] at h
        have run0 : ∀ v, (part fl.type us fl.offset).run P C.w = .ok v C.w → (execOp a.eval o).run P C.w = .ok (.value v) C.w := by
          intro v hv
          simp only [execOp, ho, hus]
          simp only [Instr.field, Sem.run_bind, run_und C.w hi.und, Result.andThen_ok, hfl, asAgg, Sem.run_pure, hv]
        cases hag : isAggD d' with
        | false =>
          rw [hag] at h
          simp only [Bool.false_eq_true, if_false] at h
          split at h
          · rename_i r hr
            rw [force_eq] at h
            obtain ⟨hlt, hr'⟩ := List.getElem?_eq_some_iff.1 hr
            have hv : us[fl.offset]? = some (us.getD fl.offset undef) := by simp [Array.getD_eq_getD_getElem?, Array.getElem?_eq_getElem (show fl.offset < us.size by omega)]
            have hr1 := hc fl.offset hlt
            rw [hr'] at hr1
            exact ⟨_, _, h, Yield.same hC (run0 _ (run_part_leaf hd' hag hv C.w)) hr1.RT'⟩
          · exact h.elim
        | true =>
          rw [hag] at h
          simp only [if_true] at h
          split at h
          · rename_i hle
            have hle := Nat.le_of_ble_eq_true hle
            refine ⟨_, _, h, Yield.same hC (v := .agg (us.extract fl.offset (fl.offset + P.cellsOf fl.type))) (run0 _ ?_) (R1_slice hsz hc hone _ _ hle)⟩
            simp only [part, Sem.run_bind, run_isAgg C.w hd', hag, Result.andThen_ok, if_true, run_sz C.w hi', cellsOf_eq hi', Sem.run_pure]
          · exact h.elim
      · exact h.elim
    · exact h.elim
  · exact h.elim


omit hC hf in
theorem addr_add (b o n : Nat) : Addr.add ⟨b, o, none⟩ n = ⟨b, o + n, none⟩ := by
  unfold Addr.add; split
  · rename_i h; subst h; rfl
  · rfl

theorem snd_fieldAddr {t : TypeId} {x : Operand} {f : Nat} (ho : o.op = .fieldAddr t x f) (h : aop Γ fr (.fieldAddr t x f) C.H next) : Snd P o a C next := by
  simp only [aop] at h
  have hx := hf.ev x
  split at h
  · rename_i sh by' fs eqs ze hti
    obtain ⟨i, d, hi⟩ := Γ.info hti
    obtain ⟨fields, rfl, hfs, _, hu⟩ := hi.struct rfl
    split at h
    · rename_i off fsh hfo
      rw [hfs, List.getElem?_map, Option.map_eq_some_iff] at hfo
      obtain ⟨fl, hfl, hfo⟩ := hfo
      rw [Array.getElem?_toList] at hfl
      obtain ⟨d', hd', hd1⟩ := hu fl (by rw [Array.mem_toList_iff]; exact Array.mem_of_getElem? hfl)
      obtain ⟨i', hi'⟩ := und_info hd'
      obtain ⟨rfl, rfl⟩ := Prod.mk.inj hfo
      split at h
      · exact h.elim
      · rename_i n hn
        have hsz : i'.size ≠ 0 := by
          intro h0
          apply hn
          rw [shOf_eq hd']
          cases hag : isAggD d' with
          | false => have := hd1 hag; rw [cellsOf_eq hi'] at this; omega
          | true => simp [Sh.size, cellsOf_eq hi', h0]
        have fin : ∀ {b q : Nat} {r : AV}, a.eval x = .pointer (some ⟨b, q, none⟩) → next r C.H → RT C (.pointer (some ⟨b, q + fl.offset, none⟩)) r → Snd P o a C next := by
          intro b q r hp hn hr
          refine ⟨r, _, hn, Yield.same hC (v := .pointer (some ⟨b, q + fl.offset, none⟩)) ?_ hr⟩
          simp only [execOp, ho, hp, Instr.fieldAt, Sem.run_bind, run_und C.w hi.und, Result.andThen_ok, hfl, Instr.sureAddr, Sem.run_pure, fieldPlace, run_sz C.w hi', Sem.run_ite, if_neg hsz, addr_add]
        split at h
        · rename_i id j k hxe
          split at h
          · rename_i kk s es hid
            rw [hxe] at hx
            refine fin (hx.ptr hid) h ⟨rfl, hx.2.1, fun kk' s' es' he => ?_⟩
            rw [hid] at he; cases he
            rw [Nat.add_assoc]
          · exact h.elim
        · rename_i s e k hxe
          rw [hxe] at hx
          obtain ⟨b, o', v, hv, hb, hr, hs, hcell⟩ := RP.at_inv hx
          refine fin hv h ?_
          have := RP.at (w := C.w) (G := C.G) s b o' (k + fl.offset) v e hb hr hs hcell
          rwa [← Nat.add_assoc] at this
        · exact h.elim
    · exact h.elim
  · exact h.elim

theorem snd_index {t : TypeId} {x ix : Operand} (ho : o.op = .index t x ix) (h : aop Γ fr (.index t x ix) C.H next) : Snd P o a C next := by
  simp only [aop] at h
  have hx := hf.ev x
  have hix := hf.ev ix
  split at h
  · rename_i sh by' ze hti
    obtain ⟨i, d, hi⟩ := Γ.info hti
    have hd := hi.str rfl; subst hd
    split at h
    · rename_i s hxe
      rw [hxe] at hx
      obtain ⟨b, hb, rfl⟩ := hx.str
      unfold intA at h
      split at h
      · rename_i k n hie
        rw [hie] at hix
        have hix := hix.int
        obtain ⟨⟨h0, h1⟩, h⟩ := h
        simp only [Array.length_toList] at h1
        have hb1 : n.toNat < b.size := h1
        refine ⟨_, _, h, Yield.same hC (v := .int .u8 ((b.data.toList.getD n.toNat 0).toNat)) ?_ (RP.int (w := C.w) (G := C.G) _ _).RT⟩
        simp only [execOp, ho, hb, hix]
        have e : b[n.toNat]? = some (b.data.toList.getD n.toNat 0) := by
          rw [getElem?_pos b n.toNat hb1]
          simp only [List.getD_eq_getElem?_getD, Array.getElem?_toList]
          rw [Array.getElem?_eq_getElem h1]
          rfl
        simp only [Instr.index, asIntOf, Sem.run_bind, Sem.run_pure, Result.andThen_ok, run_und C.w hi.und, if_pos h0, e]
      · exact h.elim
    · exact h.elim
  · exact h.elim

theorem snd_len {t : TypeId} {x : Operand} {ct : Array TypeId} {ca : Array Operand} (ho : o.op = .call ⟨.builtin .len, ca, ct⟩) (hct : ct.toList = [t]) (hca : ca.toList = [x])
    (h : aop Γ fr (.call ⟨.builtin .len, ca, ct⟩) C.H next) : Snd P o a C next := by
  simp only [aop, hct, hca] at h
  have hx := hf.evT x
  have hct : ct = #[t] := by apply Array.ext'; simpa using hct
  have hca : ca = #[x] := by apply Array.ext'; simpa using hca
  subst hct hca
  have run0 : ∀ v, (Builtin.len_ #[t] o.type #[a.eval x]).run P C.w = .ok v C.w → (execOp a.eval o).run P C.w = .ok (.value v) C.w := by
    intro v hv
    simp only [execOp, ho, resolve, Sem.run_bind, Sem.run_pure, Result.andThen_ok, invoke, builtin, List.map_toArray, List.map_cons, List.map_nil, hv]
  split at h
  · rename_i sh by' ze s hti hxe
    obtain ⟨i, d, hi⟩ := Γ.info hti
    have hd := hi.str rfl; subst hd
    rw [hxe] at hx
    obtain ⟨b, hb, rfl⟩ := hx.str
    refine ⟨_, _, h, Yield.same hC (v := .int .i64 b.data.toList.length) (run0 _ ?_) (RP.int (w := C.w) (G := C.G) _ _).RT⟩
    simp [Builtin.len_, run_und C.w hi.und, hb, goInt]
  · rename_i sh by' e ze hti hxe
    obtain ⟨i, d, hi⟩ := Γ.info hti
    have hd := hi.slice rfl; subst hd
    rw [hxe] at hx
    have hb := hx.nils
    refine ⟨_, _, h, Yield.same hC (v := .int .i64 0) (run0 _ ?_) (RP.int (w := C.w) (G := C.G) _ _).RT⟩
    simp [Builtin.len_, run_und C.w hi.und, hb, goInt]
  · rename_i sh by' e ze sh' l hti hxe
    obtain ⟨i, d, hi⟩ := Γ.info hti
    have hd := hi.slice rfl; subst hd
    rw [hxe] at hx
    have hx : RP C.w C.G (a.eval x) (.list sh' l) := hx
    obtain ⟨ad, c, hb⟩ : ∃ ad c, a.eval x = .slice ad l.length c := by
      generalize a.eval x = u at hx
      cases hx <;> exact ⟨_, _, rfl⟩
    refine ⟨_, _, h, Yield.same hC (v := .int .i64 l.length) (run0 _ ?_) (RP.int (w := C.w) (G := C.G) _ _).RT⟩
    simp [Builtin.len_, run_und C.w hi.und, hb, goInt]
  · rename_i sh by' e ze id off len hti hxe
    obtain ⟨i, d, hi⟩ := Γ.info hti
    have hd := hi.slice rfl; subst hd
    rw [hxe] at hx
    obtain ⟨_, _, hx, _⟩ := hx
    split at h
    · rename_i kk s es hid
      obtain ⟨ad, c, hb⟩ : ∃ ad c, a.eval x = .slice ad len c := by
        by_cases hl : (Blk.row kk s es).live
        · obtain ⟨cap, hv, _⟩ := (hx kk s es hid).2 hl
          exact ⟨_, _, hv⟩
        · obtain ⟨ad, hv, h0⟩ := (hx kk s es hid).1 hl
          subst h0; exact ⟨_, _, hv⟩
      refine ⟨_, _, h, Yield.same hC (v := .int .i64 len) (run0 _ ?_) (RP.int (w := C.w) (G := C.G) _ _).RT⟩
      simp [Builtin.len_, run_und C.w hi.und, hb, goInt]
    · exact h.elim
  · exact h.elim

theorem snd_cap {t : TypeId} {x : Operand} {ct : Array TypeId} {ca : Array Operand} (ho : o.op = .call ⟨.builtin .cap, ca, ct⟩) (hct : ct.toList = [t]) (hca : ca.toList = [x])
    (h : aop Γ fr (.call ⟨.builtin .cap, ca, ct⟩) C.H next) : Snd P o a C next := by
  simp only [aop, hct, hca] at h
  have hx := hf.ev x
  have hct : ct = #[t] := by apply Array.ext'; simpa using hct
  have hca : ca = #[x] := by apply Array.ext'; simpa using hca
  subst hct hca
  have run0 : ∀ v, (Builtin.cap_ #[t] o.type #[a.eval x]).run P C.w = .ok v C.w → (execOp a.eval o).run P C.w = .ok (.value v) C.w := by
    intro v hv
    simp only [execOp, ho, resolve, Sem.run_bind, Sem.run_pure, Result.andThen_ok, invoke, builtin, List.map_toArray, List.map_cons, List.map_nil, hv]
  split at h
  · rename_i sh by' e ze hti hxe
    obtain ⟨i, d, hi⟩ := Γ.info hti
    have hd := hi.slice rfl; subst hd
    rw [hxe] at hx
    have hb := hx.nils
    refine ⟨_, _, h, Yield.same hC (v := .int .i64 0) (run0 _ ?_) (RP.int (w := C.w) (G := C.G) _ _).RT⟩
    simp [Builtin.cap_, run_und C.w hi.und, hb, goInt]
  · exact h.elim

omit hC hf in
theorem foldMax_some {C : Ctx} : ∀ (l : List Operand) (m n : Int), foldMax (l.map (ev fr)) (some m) = some n → FrOk C a fr → (w : World) →
    (List.foldlM Builtin.max2 (.int .i64 m) (l.map a.eval)).run P w = .ok (.int .i64 n) w
  | [], m, n, h, _, w => by simp [foldMax] at h; simp [h]
  | x :: l, m, n, h, hf, w => by
    have hx := hf.ev x
    simp only [List.map_cons] at h ⊢
    generalize ev fr x = q at h hx
    cases q with
    | int k v =>
      cases k with
      | i64 =>
        have h : foldMax (l.map (ev fr)) (some (max m v)) = some n := h
        have hx := hx.int
        have : (Builtin.max2 (.int .i64 m) (a.eval x)).run P w = .ok (.int .i64 (max m v)) w := by
          rw [hx]; simp only [Builtin.max2, Sem.run_pure]; congr 2; omega
        rw [List.foldlM_cons, Sem.run_bind, this]
        exact foldMax_some l _ _ h hf w
      | _ => simp [foldMax] at h
    | _ => simp [foldMax] at h

omit hC hf in
theorem foldMin_some {C : Ctx} : ∀ (l : List Operand) (m n : Int), foldMin (l.map (ev fr)) (some m) = some n → FrOk C a fr → (w : World) →
    (List.foldlM Builtin.min2 (.int .i64 m) (l.map a.eval)).run P w = .ok (.int .i64 n) w
  | [], m, n, h, _, w => by simp [foldMin] at h; simp [h]
  | x :: l, m, n, h, hf, w => by
    have hx := hf.ev x
    simp only [List.map_cons] at h ⊢
    generalize ev fr x = q at h hx
    cases q with
    | int k v =>
      cases k with
      | i64 =>
        have h : foldMin (l.map (ev fr)) (some (min m v)) = some n := h
        have hx := hx.int
        have : (Builtin.min2 (.int .i64 m) (a.eval x)).run P w = .ok (.int .i64 (min m v)) w := by
          rw [hx]; simp only [Builtin.min2, Sem.run_pure]; congr 2; omega
        rw [List.foldlM_cons, Sem.run_bind, this]
        exact foldMin_some l _ _ h hf w
      | _ => simp [foldMin] at h
    | _ => simp [foldMin] at h

theorem snd_max {ct : Array TypeId} {ca : Array Operand} (ho : o.op = .call ⟨.builtin .max, ca, ct⟩) (h : aop Γ fr (.call ⟨.builtin .max, ca, ct⟩) C.H next) : Snd P o a C next := by
  simp only [aop] at h
  have h := evArgs_elim _ _ h
  split at h
  · rename_i n hn
    refine ⟨_, _, h, Yield.same hC (v := .int .i64 n) ?_ (RP.int (w := C.w) (G := C.G) _ _).RT⟩
    have hm : (Builtin.max_ ct o.type (ca.map a.eval)).run P C.w = .ok (.int .i64 n) C.w := by
      simp only [Builtin.max_, Array.toList_map]
      cases hl : ca.toList with
      | nil => rw [hl] at hn; simp [foldMax] at hn
      | cons x l =>
        rw [hl] at hn
        have hx := hf.ev x
        simp only [List.map_cons] at hn ⊢
        generalize ev fr x = q at hn hx
        cases q with
        | int k v =>
          cases k with
          | i64 =>
            have hn : foldMax (l.map (ev fr)) (some v) = some n := hn
            rw [hx.int]
            exact foldMax_some l _ _ hn hf C.w
          | _ => simp [foldMax] at hn
        | _ => simp [foldMax] at hn
    simp only [execOp, ho, resolve, Sem.run_bind, Sem.run_pure, Result.andThen_ok, invoke, builtin, hm]
  · exact h.elim

theorem snd_min {ct : Array TypeId} {ca : Array Operand} (ho : o.op = .call ⟨.builtin .min, ca, ct⟩) (h : aop Γ fr (.call ⟨.builtin .min, ca, ct⟩) C.H next) : Snd P o a C next := by
  simp only [aop] at h
  have h := evArgs_elim _ _ h
  split at h
  · rename_i n hn
    refine ⟨_, _, h, Yield.same hC (v := .int .i64 n) ?_ (RP.int (w := C.w) (G := C.G) _ _).RT⟩
    have hm : (Builtin.min_ ct o.type (ca.map a.eval)).run P C.w = .ok (.int .i64 n) C.w := by
      simp only [Builtin.min_, Array.toList_map]
      cases hl : ca.toList with
      | nil => rw [hl] at hn; simp [foldMin] at hn
      | cons x l =>
        rw [hl] at hn
        have hx := hf.ev x
        simp only [List.map_cons] at hn ⊢
        generalize ev fr x = q at hn hx
        cases q with
        | int k v =>
          cases k with
          | i64 =>
            have hn : foldMin (l.map (ev fr)) (some v) = some n := hn
            rw [hx.int]
            exact foldMin_some l _ _ hn hf C.w
          | _ => simp [foldMin] at hn
        | _ => simp [foldMin] at hn
    simp only [execOp, ho, resolve, Sem.run_bind, Sem.run_pure, Result.andThen_ok, invoke, builtin, hm]
  · exact h.elim

-- reading memory
omit hC hf in
theorem run_loadVar_leaf {t : TypeId} {d : TypeDesc} (h : P.underlying t = some d) (hd : isAggD d = false) {w : World} {ad : Addr} {v : Value} (hv : w.cell? ad = some v) :
    (loadVar t ad).run P w = .ok v w := by
  simp only [loadVar, Sem.run_bind, run_isAgg w h, hd, Result.andThen_ok, Bool.false_eq_true, if_false, run_load, hv]

omit hC hf in
theorem run_loadVar_agg {t : TypeId} {d : TypeDesc} {i : TypeInfo} (h : P.underlying t = some d) (hi : P.info? t = some i) (hd : isAggD d = true) {w : World} {b o : Nat} {cs : Array Value} (hn : cs.size = i.size)
    (hv : ∀ j, j < cs.size → w.cell? ⟨b, o + j, none⟩ = cs[j]?) :
    (loadVar t ⟨b, o, none⟩).run P w = .ok (.agg cs) w := by
  simp only [loadVar, Sem.run_bind, run_isAgg w h, hd, Result.andThen_ok, if_true, run_sz w hi, ← hn, run_loadCells_rep hv, Sem.run_pure]

omit hC hf in
theorem loadPart_snd {t : TypeId} {ti : TI} {i : TypeInfo} {d : TypeDesc} (hi : TInfo P t ti i d) {sh : Sh} {x : AV} {k : Nat} {nx : AV → Prop} (h : loadPart sh ti.sh x k nx)
    {v : Value} (hv : RA C v x) (hs : okSh v sh) {b o : Nat} (hcell : ∀ j, j < sh.size → C.w.cell? ⟨b, o + j, none⟩ = v.cells[j]?) :
    ∃ r u, nx r ∧ RA C u r ∧ (loadVar t ⟨b, o + k, none⟩).run P C.w = .ok u C.w := by
  unfold loadPart at h
  have hsize := hs.size
  split at h
  · rename_i hb
    rw [force_eq] at h
    simp only [Bool.and_eq_true] at hb
    have hk := Nat.eq_of_beq_eq_true hb.1
    have hsh := Sh.beq_eq hb.2
    subst hk
    refine ⟨x, v, h, hv, ?_⟩
    rw [← hsh] at hs hcell hsize
    have hshd := hi.sh
    cases hag : isAggD d with
    | false =>
      rw [hag] at hshd; simp only [Bool.false_eq_true, if_false] at hshd
      rw [hshd] at hs hcell
      have h1 : v.cells = #[v] := cells_one hs
      have := hcell 0 (by simp [Sh.size])
      rw [h1] at this
      exact run_loadVar_leaf hi.und hag (by simpa using this)
    | true =>
      rw [hag] at hshd; simp only [if_true] at hshd
      rw [hshd] at hs hcell hsize
      obtain ⟨cs, rfl, hcs, _⟩ := hs
      exact run_loadVar_agg hi.und hi.info hag hcs (fun j hj => hcell j (by simp [Sh.size]; omega))
  · split at h
    · rename_i cs
      obtain ⟨us, rfl, husz, huc, hone⟩ := hv
      have hsz : us.size = sh.size := by simpa [Value.cells] using hsize
      have hcell' : ∀ j, j < us.size → C.w.cell? ⟨b, o + j, none⟩ = us[j]? := fun j hj => hcell j (by omega)
      split at h
      · rename_i hleaf
        split at h
        · rename_i r hr
          rw [force_eq] at h
          obtain ⟨hlt, hr'⟩ := List.getElem?_eq_some_iff.1 hr
          have hc := huc k hlt
          rw [hr'] at hc
          have hag : isAggD d = false := by
            have := hi.sh; rw [hleaf] at this
            cases hg : isAggD d with
            | false => rfl
            | true => rw [hg] at this; simp at this
          have hkl : k < us.size := by omega
          refine ⟨r, us.getD k undef, h, ?_, run_loadVar_leaf hi.und hag ?_⟩
          · have := hc.nag.1
            cases r <;> first | exact hc | exact absurd rfl (this _)
          · rw [hcell' k hkl]; simp [Array.getD_eq_getD_getElem?, Array.getElem?_eq_getElem hkl]
        · exact h.elim
      · rename_i n hn
        split at h
        · rename_i hle
          have hle := Nat.le_of_ble_eq_true hle
          have hag : isAggD d = true ∧ i.size = n := by
            have := hi.sh; rw [hn] at this
            cases hg : isAggD d with
            | false => rw [hg] at this; simp at this
            | true => rw [hg] at this; simp only [if_true, Sh.agg.injEq] at this; exact ⟨rfl, this.symm⟩
          refine ⟨_, .agg (us.extract k (k + n)), h, R1_slice husz huc hone _ _ hle, ?_⟩
          refine run_loadVar_agg hi.und hi.info hag.1 (by simp; omega) (fun j hj => ?_)
          simp at hj
          rw [Nat.add_assoc, hcell' (k + j) (by omega), Array.getElem?_extract, if_pos (by omega)]
        · exact h.elim
    · exact h.elim

theorem snd_load {t : TypeId} {x : Operand} (ho : o.op = .load t x) (h : aop Γ fr (.load t x) C.H next) : Snd P o a C next := by
  simp only [aop] at h
  have hx := hf.ev x
  split at h
  · rename_i sh by' kd ze hti
    obtain ⟨i, d, hi⟩ := Γ.info hti
    have fin : ∀ {b o' : Nat} {r : AV} {u : Value}, a.eval x = .pointer (some ⟨b, o', none⟩) → next r C.H → RA C u r → (loadVar t ⟨b, o', none⟩).run P C.w = .ok u C.w → Snd P o a C next := by
      intro b o' r u hp hn hr hrun
      refine ⟨r, _, hn, Yield.same hC (v := u) (by simp only [execOp, ho, hp, Instr.loadAt, Instr.sureAddr, Sem.run_bind, Sem.run_pure, Result.andThen_ok, hrun]) ?_⟩
      cases r <;> first | exact hr | exact hr.elim
    have rowCase : ∀ {id j k : Nat} {kk : RK} {s : Sh} {es : List AV} {e : AV}, ev fr x = .ptr id j k → C.H[id]? = some (.row kk s es) → es[j]? = some e → loadPart s sh e k (fun a => next a C.H) → Snd P o a C next := by
      intro id j k kk s es e hxe hid he hl
      rw [hxe] at hx
      have hp := hx.ptr hid
      obtain ⟨hlt, rfl⟩ := List.getElem?_eq_some_iff.1 he
      have hlive : (Blk.row kk s es).live := by cases kk <;> simp [Blk.live]; intro h0; subst h0; simp at hlt
      obtain ⟨c, T, fz, hc, _, hle, _, hel⟩ := hC.row id kk s es hid hlive
      obtain ⟨v, hv, _, hs, hcell⟩ := hel j hlt
      have hsp := hC.sz id kk s es hid
      obtain ⟨r, u, hn, hu, hrun⟩ := loadPart_snd (P := P) hi hl hv hs (b := C.β id) (o := j * s.size) (fun q hq => by
        simp only [World.cell?, hc, Option.isSome_none, Bool.false_eq_true, if_false]; exact hcell q hq)
      exact fin hp hn hu hrun
    split at h
    · rename_i id j k hxe
      split at h
      · rename_i s e hid
        split at h
        · exact rowCase hxe hid rfl h
        · exact h.elim
      · rename_i s es hid
        obtain ⟨e, he, h⟩ := h
        exact rowCase hxe hid he h
      · rename_i s es hid
        obtain ⟨e, he, h⟩ := h
        exact rowCase hxe hid he h
      · exact h.elim
    · rename_i s e k hxe
      rw [hxe] at hx
      obtain ⟨b, o', v, hv, hb, hr, hs, hcell⟩ := RP.at_inv hx
      obtain ⟨r, u, hn, hu, hrun⟩ := loadPart_snd (P := P) hi h hr.RA hs hcell
      exact fin hv hn hu hrun
    · exact h.elim
  · exact h.elim

end
end Go.Bv
