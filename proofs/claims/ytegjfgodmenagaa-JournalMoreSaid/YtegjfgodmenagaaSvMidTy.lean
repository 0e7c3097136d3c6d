/- Part of the lift: an abstract walk of the program's code, proved sound, and what it shows of this program. -/
import Derived.Test.YtegjfgodmenagaaSvDisk
namespace Go.Bv
open Go Go.Proofs

theorem drop_one {xs : List AV} {o : Nat} {a : AV} (h : (xs.drop o).take 1 = [a]) : xs.drop o = a :: xs.drop (o + 1) := by
  cases hq : xs.drop o with
  | nil => rw [hq] at h; cases h
  | cons b r =>
    rw [hq] at h
    simp only [List.take_succ_cons, List.take_zero, List.cons.injEq, and_true] at h
    rw [← List.drop_drop, hq, h]; rfl
theorem drop_all {xs : List AV} {n : Nat} (h : xs.length = n) : xs.drop n = [] := List.drop_eq_nil_of_le (by omega)

theorem ty_Disk {n : Nat} {xs : List AV} (h : TyC Try.prog n 65 xs) : ∃ a : List UInt8 × List UInt8, xs = [bytes a.1, bytes a.2] ∧ a.1.length ≤ reachBytes ∧ a.2.length ≤ reachBytes := by
  obtain ⟨hl, hf⟩ := ty_struct h Try.underlying65
  have cB : Try.prog.cellsOf 25 = 1 := by kernel_rfl
  have cD : Try.prog.cellsOf 65 = 2 := by kernel_rfl
  rw [cD] at hl
  have h1 := hf _ (List.mem_cons_self ..)
  have h2 := hf _ (List.mem_cons_of_mem _ (List.mem_cons_self ..))
  dsimp only at h1 h2
  rw [cB] at h1 h2
  obtain ⟨x, e1, g1⟩ := ty_bytes h1 Try.underlying25 Try.underlying5 (by kernel_rfl)
  obtain ⟨y, e2, g2⟩ := ty_bytes h2 Try.underlying25 Try.underlying5 (by kernel_rfl)
  have e1 := drop_one e1
  have e2 := drop_one e2
  rw [drop_all hl] at e2
  rw [e2] at e1
  exact ⟨(x, y), e1, g1, g2⟩
end Go.Bv
