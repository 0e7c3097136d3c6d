/- Part of the lift: an abstract walk of the program's code, proved sound, and what it shows of this program. -/
import Derived.Test.YtojiaifdpaofdaaSvVecL
import Derived.Test.YtojiaifdpaofdaaSvLowTy
namespace Go.Bv
open Go Go.Proofs

theorem ty_Vec {n : Nat} {xs : List AV} (h : TyC Try.prog n 66 xs) : ∃ a : List Int, xs = [ints a] ∧ a.length ≤ reachBytes := by
  obtain ⟨l, rfl, hl, hx⟩ := ty_slice h Try.underlying66
  have b3 : Try.prog.bytesOf 3 = 8 := by kernel_rfl
  rw [shOf_int Try.underlying3] at hx ⊢
  rw [b3] at hl
  have : ∀ x ∈ l, ∃ a : Int, x = i64 a := by
    intro x hxl
    obtain ⟨ys, hy, rfl⟩ := hx x hxl
    obtain ⟨z, rfl, _⟩ := ty_i64 hy Try.underlying3
    exact ⟨z, rfl⟩
  obtain ⟨a, rfl⟩ := list_of this
  refine ⟨a, rfl, ?_⟩
  simp only [List.length_map] at hl
  omega
theorem ty_Dot {n : Nat} {xs : List AV} (h : TyC Try.prog n 76 xs) : ∃ a : Int × Int × Int, xs = [i64 a.1, i64 a.2.1, i64 a.2.2] ∧ True := by
  obtain ⟨hl, hf⟩ := ty_struct h Try.underlying76
  have c76 : Try.prog.cellsOf 76 = 3 := by kernel_rfl
  have c3 : Try.prog.cellsOf 3 = 1 := by kernel_rfl
  rw [c76] at hl
  have h1 := hf _ (List.mem_cons_self ..)
  have h2 := hf _ (List.mem_cons_of_mem _ (List.mem_cons_self ..))
  have h3 := hf _ (List.mem_cons_of_mem _ (List.mem_cons_of_mem _ (List.mem_cons_self ..)))
  dsimp only at h1 h2 h3
  rw [c3] at h1 h2 h3
  obtain ⟨x, e1, _⟩ := ty_i64 h1 Try.underlying3
  obtain ⟨y, e2, _⟩ := ty_i64 h2 Try.underlying3
  obtain ⟨z, e3, _⟩ := ty_i64 h3 Try.underlying3
  have e1 := drop_one e1
  have e2 := drop_one e2
  have e3 := drop_one e3
  rw [drop_all hl] at e3
  rw [e3] at e2
  rw [e2] at e1
  exact ⟨(x, y, z), e1, trivial⟩
end Go.Bv
