/- Vectors are laid together in any order and grouping, and with themselves they are the same: the statement VecLaws of the given program, for every input. -/
import Derived.Test.YtojiaifdpaofdaaSvVecTy
import Derived.Test.YtojiaifdpaofdaaRows
namespace Go.Proofs.Ytojiaifdpaofdaa
open Go Go.Bv Go.RowKit

theorem own : ownKnob Try.prog.godebug = none := by kernel_rfl
theorem laidOut : laidOutB Try.prog = true := by kernel_rfl

set_option maxRecDepth 100000 in
theorem vecLaws_law (q : List AV) (h : TyVs Try.prog 6 Try.f12.params.toList q) : ACalls Try.prog 12 q [] (.bool true) [] := by
  rw [Try.params12] at h
  obtain ⟨x0, _, rfl, t0, h⟩ := h.cons
  obtain ⟨x1, _, rfl, t1, h⟩ := h.cons
  obtain ⟨x2, _, rfl, t2, h⟩ := h.cons
  obtain rfl := h.nil
  obtain ⟨a0, rfl, h0⟩ := ty_Vec t0
  obtain ⟨a1, rfl, h1⟩ := ty_Vec t1
  obtain ⟨a2, rfl, h2⟩ := ty_Vec t2
  try rw [shOf_slice Try.underlying66]
  exact vecLaws_walk a0 a1 a2

set_option maxRecDepth 100000 in
theorem vecLaws_lifted (os : Os) (started : os.Started) (H : Type) (enc : TypeId × Value → H) :
    ReturnsInHanded {} Try.checked os 12 .any (Rows.vecLawsSpec.pre6 enc Try.prog Try.f12 Rows.vecLawsRow.domain false) (Rows.vecLawsSpec.post enc Try.prog Try.f12 false true false false) :=
  law_lifted (C := Try.checked) 6 started own laidOut rfl rfl (by kernel_rfl) Try.func12
    (ChangeSpec.witness6 (enc := enc) (C := Try.checked) false ⟨#[], #[.slice none 0 0, .slice none 0 0, .slice none 0 0], []⟩ 8 (by kernel_rfl) (by kernel_rfl) (by kernel_rfl) (by kernel_rfl))
    4 (by kernel_rfl) Try.underlying4 (by kernel_rfl) (fun ds h => by match ds, h with | [d0, d1, d2], _ => rfl) vecLaws_law

/-- Vectors are laid together in any order and grouping, and with themselves they are the same: the statement VecLaws of the given program, for every input. -/
theorem vecLaws_holds : Rows.VecLawsSaid :=
  OpenClaim.holds_of_wide 12 Try.f12 rfl rfl rfl rfl rfl rfl rfl ⟨rfl, rfl, rfl, rfl, rfl⟩ rfl rfl rfl rfl rfl (by kernel_rfl) Try.func12 (by kernel_rfl)
    (of_decide_eq_true (by kernel_rfl)) (by unfold Func.isWrapper; first | (rw [if_pos (by decide +kernel)]; kernel_rfl) | (rw [if_neg (by decide +kernel)]; exact ⟨rfl, rfl⟩))
    (fun os started H enc _ => vecLaws_lifted os started H enc)

end Go.Proofs.Ytojiaifdpaofdaa
#print axioms Go.Proofs.Ytojiaifdpaofdaa.vecLaws_holds
