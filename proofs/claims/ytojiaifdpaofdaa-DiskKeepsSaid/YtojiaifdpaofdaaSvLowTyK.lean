/- Part of the lift: an abstract walk of the program's code, proved sound, and what it shows of this program. -/
import Derived.Test.YtojiaifdpaofdaaSvDiskK
import Derived.Test.YtojiaifdpaofdaaSvLowTy
namespace Go.Bv
open Go Go.Proofs

theorem ty_Op {n : Nat} {xs : List AV} (h : TyC Try.prog n 50 xs) : ∃ a : List (Int × Int × List UInt8), xs = [.list (.agg 3) (a.map opA)] ∧ a.length ≤ reachBytes ∧ ∀ x ∈ a, (-9223372036854775808 ≤ x.1 ∧ x.1 < 9223372036854775808) ∧ x.2.2.length ≤ reachBytes := by
  obtain ⟨l, rfl, hl, hx⟩ := ty_slice h Try.underlying50
  have c52 : Try.prog.cellsOf 52 = 3 := by kernel_rfl
  have c3 : Try.prog.cellsOf 3 = 1 := by kernel_rfl
  have c23 : Try.prog.cellsOf 23 = 1 := by kernel_rfl
  have b52 : Try.prog.bytesOf 52 = 40 := by kernel_rfl
  rw [shOf_struct Try.underlying52, c52] at hx ⊢
  rw [b52] at hl
  have : ∀ x ∈ l, ∃ a : Int × Int × List UInt8, x = opA a ∧ ((-9223372036854775808 ≤ a.1 ∧ a.1 < 9223372036854775808) ∧ a.2.2.length ≤ reachBytes) := by
    intro x hxl
    obtain ⟨ys, hy, rfl⟩ := hx x hxl
    obtain ⟨hl, hf⟩ := ty_struct hy Try.underlying52
    rw [c52] at hl
    have h1 := hf _ (List.mem_cons_self ..)
    have h2 := hf _ (List.mem_cons_of_mem _ (List.mem_cons_self ..))
    have h3 := hf _ (List.mem_cons_of_mem _ (List.mem_cons_of_mem _ (List.mem_cons_self ..)))
    dsimp only at h1 h2 h3
    rw [c3] at h1 h2
    rw [c23] at h3
    obtain ⟨d, e1, g1, g1'⟩ := ty_i64 h1 Try.underlying3
    obtain ⟨k, e2, _⟩ := ty_i64 h2 Try.underlying3
    obtain ⟨b, e3, g3⟩ := ty_bytes h3 Try.underlying23 Try.underlying5 (by kernel_rfl)
    have e1 := drop_one e1
    have e2 := drop_one e2
    have e3 := drop_one e3
    rw [drop_all hl] at e3
    rw [e3] at e2
    rw [e2] at e1
    exact ⟨(d, k, b), by show AV.agg ys = _; rw [show ys = [i64 d, i64 k, bytes b] from e1]; rfl, ⟨g1, g1'⟩, g3⟩
  obtain ⟨a, rfl, ha⟩ := list_of' this
  refine ⟨a, rfl, ?_, ha⟩
  simp only [List.length_map] at hl
  omega
end Go.Bv
