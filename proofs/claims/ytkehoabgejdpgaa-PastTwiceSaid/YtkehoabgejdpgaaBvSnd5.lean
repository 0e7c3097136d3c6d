/- Part of the lift: an abstract walk of the program's code, proved sound, and what it shows of this program. -/
import Derived.Test.YtkehoabgejdpgaaBvSnd4
namespace Go.Bv
open Go

theorem alloc_last (w : World) (o : Obj) : (w.alloc o).heap[w.heap.size]? = some o := by
  show (w.heap.push o)[w.heap.size]? = some o
  simp

theorem new_box {C : Ctx} (hC : HRep C) {v : Value} {x : AV} {sh : Sh} (hv : RA C v x) (hs : okSh v sh) (hp : 0 < sh.size) (T : TypeId) :
    ∃ C' : Ctx, C'.w = C.w.alloc (.cells v.cells T) ∧ C'.H = C.H ++ [.row .box sh [x]] ∧ Ext C C' ∧ HRep C' ∧ RT C' (.pointer (some ⟨C.w.heap.size, 0, none⟩)) (.ptr C.H.length 0 0) := by
  have hE := add_ext hC (C.w.alloc (.cells v.cells T)) (push_pre _ _) (by simp) rfl rfl rfl C.w.heap.size (Nat.le_refl _) (.row .box sh [x])
  refine ⟨_, rfl, rfl, hE, add_hrep hC (push_pre _ _) (by simp) rfl rfl rfl (Nat.le_refl _) ?_ ?_ ?_, rfl, by simp, ?_⟩
  · intro kk s es h; cases h; exact hp
  · intro kk s es h _
    cases h
    refine ⟨v.cells, T, (0, 0), alloc_last _ _, .inl rfl, by simp [hs.size], fun o y hy => hs.cell_one hy, fun i hi => ?_⟩
    simp at hi; subst hi
    exact ⟨v, hE.RA hv, fun h => absurd rfl h, hs, fun j _ => by simp⟩
  · intro es h; cases h
  · intro kk s es h
    simp at h
    simp

theorem new_row {C : Ctx} (hC : HRep C) {w' : World} (hpre : ∀ b, b < C.w.heap.size → w'.heap[b]? = C.w.heap[b]?)
    (hos : w'.os = C.w.os) (ht : w'.tape = C.w.tape) (ho : w'.output = C.w.output) {cells rest : Array Value} {T : TypeId} {fz : Nat × Nat} (hb : w'.heap[C.w.heap.size]? = some (.cells (cells ++ rest) T fz))
    (hfz : fz.1 = fz.2 ∨ (cells ++ rest).size ≤ fz.1) (hr : ∀ (o : Nat) (x : Value), rest[o]? = some x → x.oneCell' = true)
    {k : RK} {sh : Sh} {es : List AV} (hl : Lay C.w C.G sh cells es) (hp : 0 < sh.size) {cap : Nat} (hcap : cap * sh.size ≤ (cells ++ rest).size) (hlc : es.length ≤ cap) (hv0 : k = .vrow → es = [] → cap = 0) :
    ∃ C' : Ctx, C'.w = w' ∧ C'.H = C.H ++ [.row k sh es] ∧ Ext C C' ∧ HRep C' ∧ RT C' (.slice (some ⟨C.w.heap.size, 0, none⟩) es.length cap) (.own C.H.length 0 es.length) := by
  have hlt := (Array.getElem?_eq_some_iff.1 hb).1
  have hE := add_ext hC w' hpre (by omega) hos ht ho C.w.heap.size (Nat.le_refl _) (.row k sh es)
  refine ⟨_, rfl, rfl, hE, add_hrep hC hpre (by omega) hos ht ho (Nat.le_refl _) ?_ ?_ ?_, rfl, by simp, ?_, fun kk s es' h => by simp at h; obtain ⟨rfl, rfl, rfl⟩ := h; simp, fun s es' h => by simp at h⟩
  · intro kk s es h; cases h; exact hp
  · intro kk s es h _
    cases h
    exact (hl.mono fun b hb => hE.G hb).row hp hb hfz hr
  · intro es h; cases h
  · intro kk s es' h
    simp at h
    obtain ⟨rfl, rfl, rfl⟩ := h
    refine ⟨fun hn => ?_, fun _ => ⟨cap, by simp, hlc, by omega, cells ++ rest, T, fz, by simp [hb], by simpa using hcap⟩⟩
    obtain ⟨rfl, rfl⟩ := Blk.not_live_row hn
    exact ⟨some ⟨C.w.heap.size, 0, none⟩, by simp [hv0 rfl rfl]⟩

/-- A row without memory. -/
theorem new_none {C : Ctx} (hC : HRep C) {w' : World} (hpre : ∀ b, b < C.w.heap.size → w'.heap[b]? = C.w.heap[b]?) (hsz : C.w.heap.size ≤ w'.heap.size)
    (hos : w'.os = C.w.os) (ht : w'.tape = C.w.tape) (ho : w'.output = C.w.output) {sh : Sh} (hp : 0 < sh.size) (ad : Option Addr) :
    ∃ C' : Ctx, C'.w = w' ∧ C'.H = C.H ++ [.row .vrow sh []] ∧ Ext C C' ∧ HRep C' ∧ RT C' (.slice ad 0 0) (.own C.H.length 0 0) := by
  have hE := add_ext hC w' hpre hsz hos ht ho C.w.heap.size (Nat.le_refl _) (.row .vrow sh [])
  refine ⟨_, rfl, rfl, hE, add_hrep hC hpre hsz hos ht ho (Nat.le_refl _) ?_ ?_ ?_, rfl, by simp, ?_, fun kk s es' h => by simp at h; obtain ⟨rfl, rfl, rfl⟩ := h; simp, fun s es' h => by simp at h⟩
  · intro kk s es h; cases h; exact hp
  · intro kk s es h hl
    cases h
    exact absurd rfl hl
  · intro es h; cases h
  · intro kk s es' h
    simp at h
    obtain ⟨rfl, rfl, rfl⟩ := h
    exact ⟨fun _ => ⟨_, rfl, rfl⟩, fun hl => absurd rfl hl⟩

section
variable {P : Program} (Γ : Tab P) {C : Ctx} (hC : HRep C) {a : Act} {fr : Fr} (hf : FrOk C a fr) {o : Oper} {next : AV → List Blk → Prop}
include hC hf

omit hC hf in
theorem Snd.mk {v : Value} {r : AV} {H' : List Blk} {w' : World} (hn : next r H') (hx : ∃ C' : Ctx, C'.w = w' ∧ C'.H = H' ∧ Ext C C' ∧ HRep C' ∧ RT C' v r) (hrun : (execOp a.eval o).run P C.w = .ok (.value v) w') : Snd P o a C next := by
  obtain ⟨C', rfl, rfl, hE, hC', hr⟩ := hx
  exact ⟨r, _, hn, Yield.of hrun hE hC' hr⟩

theorem snd_alloc {t : TypeId} (ho : o.op = .alloc t) (h : aop Γ fr (.alloc t) C.H next) : Snd P o a C next := by
  have _ := hf
  simp only [aop] at h
  split at h
  · rename_i sh by' kd z hti
    obtain ⟨i, d, hi⟩ := Γ.info hti
    split at h
    · rename_i hs
      simp only [Bool.and_eq_true] at hs
      have hp := Nat.le_of_ble_eq_true hs.2
      obtain ⟨zv, hz, hze⟩ := hi.zeroOk (sh := sh) hs.1
      have hze : avOfA zv = z := hze
      have hra : RA C zv z := hze ▸ RA_avOfA zv
      refine Snd.mk h (new_box hC hra (hra.shOk hs.1) hp t) ?_
      simp only [execOp, ho, Instr.alloc, Sem.run_bind, run_zero C.w hi.info hz, Result.andThen_ok, newVar, newRow, Sem.run_pure, run_newObj, World.alloc_eq]
    · exact h.elim
  · exact h.elim

theorem snd_box {t : TypeId} {x : Operand} (ho : o.op = .box t x) (h : aop Γ fr (.box t x) C.H next) : Snd P o a C next := by
  simp only [aop] at h
  have hx := hf.ev x
  split at h
  · rename_i sh by' kd z hti
    obtain ⟨i, d, hi⟩ := Γ.info hti
    split at h
    · rename_i hs
      rw [force_eq] at h
      simp only [Bool.and_eq_true] at hs
      have hp := Nat.le_of_ble_eq_true hs.2
      have hra := hx.RA (isSh.notTup hs.1)
      refine Snd.mk h (new_box hC hra (hra.shOk hs.1) hp t) ?_
      simp only [execOp, ho, Instr.box, Sem.run_bind, Result.andThen_ok, newVar, newRow, Sem.run_pure, run_newObj, World.alloc_eq]
    · exact h.elim
  · exact h.elim

theorem snd_makeMap {t : TypeId} (ho : o.op = .makeMap t none) (h : aop Γ fr (.makeMap t none) C.H next) : Snd P o a C next := by
  have _ := hf
  simp only [aop] at h
  have hE := add_ext hC (C.w.alloc (.map #[] 0)) (push_pre _ _) (by simp) rfl rfl rfl C.w.heap.size (Nat.le_refl _) (.map [])
  refine Snd.mk h (v := .map (some C.w.heap.size)) (w' := C.w.alloc (.map #[] 0)) ⟨_, rfl, rfl, hE, add_hrep hC (push_pre _ _) (by simp) rfl rfl rfl (Nat.le_refl _) ?_ ?_ ?_, rfl, by simp, ?_⟩ ?_
  · intro kk s es h; cases h
  · intro kk s es h; cases h
  · intro es h
    cases h
    exact ⟨#[], 0, alloc_last _ _, rfl, fun i hi => by simp at hi⟩
  · intro es _; simp
  · simp [execOp, ho, Instr.makeMap]

-- composites
omit hC hf in
theorem setCells_len : ∀ (xs cs : List AV) (off : Nat), (setCells cs off xs).length = cs.length
  | [], _, _ => rfl
  | x :: r, cs, off => by simp [setCells, setCells_len r]

omit hC hf in
theorem setCells_get : ∀ (xs cs : List AV) (off i : Nat), off + xs.length ≤ cs.length →
    (setCells cs off xs)[i]? = if off ≤ i ∧ i < off + xs.length then xs[i - off]? else cs[i]?
  | [], cs, off, i, _ => by simp [setCells]; intro h1 h2; omega
  | x :: r, cs, off, i, h => by
    simp only [List.length_cons] at h
    rw [setCells, setCells_get r _ _ _ (by simp; omega)]
    simp only [List.length_cons]
    by_cases h1 : off + 1 ≤ i ∧ i < off + 1 + r.length
    · rw [if_pos h1, if_pos (by omega)]
      obtain ⟨k, rfl⟩ : ∃ k, i = off + 1 + k := ⟨i - (off + 1), by omega⟩
      rw [show off + 1 + k - (off + 1) = k by omega, show off + 1 + k - off = k + 1 by omega]
      simp
    · rw [if_neg h1]
      by_cases h2 : i = off
      · subst h2
        rw [if_pos (by omega)]
        simp only [Nat.sub_self, List.getElem?_cons_zero]
        rw [List.getElem?_set_self (by omega)]
      · rw [if_neg (by omega), List.getElem?_set_ne (by omega)]

omit hC hf in
theorem fold_writeAt (off : Nat) (xs : Array Value) (cs : Array Value) : (xs.zipIdx.foldl (fun cs (c, j) => cs.setIfInBounds (off + j) c) cs) = writeAt cs off xs.toList := by
  have key : ∀ (l : List Value) (n : Nat) (cs : Array Value), (l.zipIdx n).foldl (fun cs (c, j) => cs.setIfInBounds (off + j) c) cs = writeAt cs (off + n) l := by
    intro l
    induction l with
    | nil => intro n cs; rfl
    | cons v r ih => intro n cs; simp only [List.zipIdx_cons, List.foldl_cons, writeAt]; rw [ih]; rfl
  rw [← Array.foldl_toList, Array.toList_zipIdx]
  exact key xs.toList 0 cs

omit hC hf in
/-- The cells of an element of shape sh, held by R1. -/
theorem RA.cellsOk {C : Ctx} {v : Value} {x : AV} {sh : Sh} (hv : RA C v x) (hs : isSh x sh = true) : v.cells.size = x.cells.length ∧ x.cells.length = sh.size ∧
    ∀ (i : Nat) (h : i < x.cells.length), R1 C (v.cells.getD i undef) x.cells[i] := by
  have hk := hv.shOk hs
  have hsz := hk.size
  cases x with
  | agg cs =>
    obtain ⟨vs, rfl, h1, h2, h3⟩ := hv
    simp only [Value.cells] at hsz ⊢
    exact ⟨h1, by simp only [AV.cells]; omega, h2⟩
  | tup vs => simp [isSh, AV.sh] at hs
  | undef => simp [isSh, AV.sh] at hs
  | _ =>
    have hl : sh = .leaf := by
      cases sh with
      | leaf => rfl
      | agg n => simp [isSh, AV.sh, Sh.beq] at hs
    subst hl
    have h1 : v.cells = #[v] := cells_one hk
    rw [h1]
    refine ⟨rfl, rfl, fun i hi => ?_⟩
    simp [AV.cells] at hi; subst hi
    exact hv

omit hC in
theorem fillA_snd {places : Array (Nat × Nat)} {fs : List (Nat × Sh)} (hpl : ∀ (i off : Nat) (sh : Sh), fs[i]? = some (off, sh) → places[i]? = some (off, sh.size)) :
    ∀ (parts : List (Nat × Operand)) (cs : List AV) (cells : Array Value) (k : List AV → Prop), fillA fr fs cs parts k → RA C (.agg cells) (.agg cs) →
      ∃ cs' cells', k cs' ∧ RA C (.agg cells') (.agg cs') ∧ Instr.fill (places[·]?) cells (parts.map fun (i, x) => (i, a.eval x)) = some cells'
  | [], cs, cells, k, h, hr => ⟨cs, cells, h, hr, rfl⟩
  | (i, x) :: rest, cs, cells, k, h, hr => by
    simp only [fillA_cons] at h
    split at h
    · rename_i off sh hi
      split at h
      · rename_i hs
        rw [force_eq] at h
        simp only [Bool.and_eq_true] at hs
        have hle := Nat.le_of_ble_eq_true hs.2
        have hra := (hf.ev x).RA (isSh.notTup hs.1)
        obtain ⟨h1, h2, h3⟩ := hra.cellsOk hs.1
        obtain ⟨us, he, husz, huc, hone⟩ := hr
        cases he
        have hra' : RA C (.agg (writeAt cells off (a.eval x).cells.toList)) (.agg (setCells cs off (ev fr x).cells)) := by
          refine ⟨_, rfl, by rw [writeAt_size, setCells_len]; exact husz, fun q hq => ?_, fun q y hy => ?_⟩
          · rw [setCells_len] at hq
            have e1 := writeAt_get (a.eval x).cells.toList cells off q (by simp; omega)
            have e2 := setCells_get (ev fr x).cells cs off q (by omega)
            simp only [Array.length_toList] at e1
            have e3 : (setCells cs off (ev fr x).cells)[q]? = some ((setCells cs off (ev fr x).cells)[q]'(by rw [setCells_len]; exact hq)) := List.getElem?_eq_getElem _
            by_cases hin : off ≤ q ∧ q < off + (ev fr x).cells.length
            · rw [if_pos hin] at e2
              rw [if_pos (by omega)] at e1
              rw [e3, List.getElem?_eq_getElem (show q - off < (ev fr x).cells.length by omega)] at e2
              have e2 := Option.some.inj e2
              rw [e2, Array.getD_eq_getD_getElem?, e1, Array.getElem?_toList, ← Array.getD_eq_getD_getElem?]
              exact h3 _ (by omega)
            · rw [if_neg hin] at e2
              rw [if_neg (by omega)] at e1
              rw [e3, List.getElem?_eq_getElem hq] at e2
              have e2 := Option.some.inj e2
              rw [e2, Array.getD_eq_getD_getElem?, e1, ← Array.getD_eq_getD_getElem?]
              exact huc q hq
          · have e1 := writeAt_get (a.eval x).cells.toList cells off q (by simp; omega)
            rw [hy] at e1
            split at e1
            · rw [Array.getElem?_toList] at e1
              exact (hra.shOk hs.1).cell_one e1.symm
            · exact hone q y e1.symm
        obtain ⟨cs', cells', hk, hr', hfill⟩ := fillA_snd hpl rest _ _ k h hra'
        refine ⟨cs', cells', hk, hr', ?_⟩
        simp only [List.map_cons, Instr.fill, hpl i off sh hi]
        rw [if_neg (by simp; omega), fold_writeAt]
        exact hfill
      · exact h.elim
    · exact h.elim

end
end Go.Bv
