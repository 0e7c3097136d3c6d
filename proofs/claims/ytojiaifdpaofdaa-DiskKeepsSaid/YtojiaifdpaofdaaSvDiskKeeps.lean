/- Whatever is written, and however often it crashes, what stood fast stays, and of the rest a beginning: the statement DiskKeeps of the given program, for every input. -/
import Derived.Test.YtojiaifdpaofdaaSvLowTyK
import Derived.Test.YtojiaifdpaofdaaRows
namespace Go.Proofs.Ytojiaifdpaofdaa
open Go Go.Bv Go.RowKit

theorem own : ownKnob Try.prog.godebug = none := by kernel_rfl
theorem laidOut : laidOutB Try.prog = true := by kernel_rfl

set_option maxRecDepth 100000 in
theorem diskKeeps_law (q : List AV) (h : TyVs Try.prog 6 Try.f8.params.toList q) : ACalls Try.prog 8 q [] (.bool true) [] := by
  rw [Try.params8] at h
  obtain ⟨x0, _, rfl, t0, h⟩ := h.cons
  obtain rfl := h.nil
  obtain ⟨a0, rfl, h0⟩ := ty_Op t0
  try rw [shOf_slice Try.underlying50]
  exact diskKeeps_walk a0 h0.1 h0.2

set_option maxRecDepth 100000 in
theorem diskKeeps_lifted (os : Os) (started : os.Started) (H : Type) (enc : TypeId × Value → H) :
    ReturnsInHanded {} Try.checked os 8 .any (Rows.diskKeepsSpec.pre6 enc Try.prog Try.f8 Rows.diskKeepsRow.domain false) (Rows.diskKeepsSpec.post enc Try.prog Try.f8 false true false false) :=
  law_lifted (C := Try.checked) 6 started own laidOut rfl rfl (by kernel_rfl) Try.func8
    (ChangeSpec.witness6 (enc := enc) (C := Try.checked) false ⟨#[], #[.slice none 0 0], []⟩ 8 (by kernel_rfl) (by kernel_rfl) (by kernel_rfl) (by kernel_rfl))
    4 (by kernel_rfl) Try.underlying4 (by kernel_rfl) (fun ds h => by match ds, h with | [d0], _ => rfl) diskKeeps_law

/-- Whatever is written, and however often it crashes, what stood fast stays, and of the rest a beginning: the statement DiskKeeps of the given program, for every input. -/
theorem diskKeeps_holds : Rows.DiskKeepsSaid :=
  OpenClaim.holds_of_wide 8 Try.f8 rfl rfl rfl rfl rfl rfl rfl ⟨rfl, rfl, rfl, rfl, rfl⟩ rfl rfl rfl rfl rfl (by kernel_rfl) Try.func8 (by kernel_rfl)
    (of_decide_eq_true (by kernel_rfl)) (by unfold Func.isWrapper; first | (rw [if_pos (by decide +kernel)]; kernel_rfl) | (rw [if_neg (by decide +kernel)]; exact ⟨rfl, rfl⟩))
    (fun os started H enc _ => diskKeeps_lifted os started H enc)

end Go.Proofs.Ytojiaifdpaofdaa
#print axioms Go.Proofs.Ytojiaifdpaofdaa.diskKeeps_holds
