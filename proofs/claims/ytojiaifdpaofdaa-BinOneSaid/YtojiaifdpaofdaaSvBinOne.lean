/- What is read is put as it stood, so nothing is read out of two forms: the statement BinOne of the given program, for every input. -/
import Derived.Test.YtojiaifdpaofdaaSvBinM
import Derived.Test.YtojiaifdpaofdaaRows
namespace Go.Proofs.Ytojiaifdpaofdaa
open Go Go.Bv Go.RowKit

theorem own : ownKnob Try.prog.godebug = none := by kernel_rfl
theorem laidOut : laidOutB Try.prog = true := by kernel_rfl

set_option maxRecDepth 100000 in
theorem binOne_law (q : List AV) (h : TyVs Try.prog 6 Try.f4.params.toList q) : ACalls Try.prog 4 q [] (.bool true) [] := by
  rw [Try.params4] at h
  obtain ⟨x0, _, rfl, t0, h⟩ := h.cons
  obtain rfl := h.nil
  obtain ⟨a0, rfl, h0⟩ := ty_bytes t0 Try.underlying23 Try.underlying5 (by kernel_rfl)
  try rw [shOf_slice Try.underlying23]
  exact binOne_walk a0 h0

set_option maxRecDepth 100000 in
theorem binOne_lifted (os : Os) (started : os.Started) (H : Type) (enc : TypeId × Value → H) :
    ReturnsInHanded {} Try.checked os 4 .any (Rows.binOneSpec.pre6 enc Try.prog Try.f4 Rows.binOneRow.domain false) (Rows.binOneSpec.post enc Try.prog Try.f4 false true false false) :=
  law_lifted (C := Try.checked) 6 started own laidOut rfl rfl (by kernel_rfl) Try.func4
    (ChangeSpec.witness6 (enc := enc) (C := Try.checked) false ⟨#[], #[.slice none 0 0], []⟩ 8 (by kernel_rfl) (by kernel_rfl) (by kernel_rfl) (by kernel_rfl))
    4 (by kernel_rfl) Try.underlying4 (by kernel_rfl) (fun ds h => by match ds, h with | [d0], _ => rfl) binOne_law

/-- What is read is put as it stood, so nothing is read out of two forms: the statement BinOne of the given program, for every input. -/
theorem binOne_holds : Rows.BinOneSaid :=
  OpenClaim.holds_of_wide 4 Try.f4 rfl rfl rfl rfl rfl rfl rfl ⟨rfl, rfl, rfl, rfl, rfl⟩ rfl rfl rfl rfl rfl (by kernel_rfl) Try.func4 (by kernel_rfl)
    (of_decide_eq_true (by kernel_rfl)) (by unfold Func.isWrapper; first | (rw [if_pos (by decide +kernel)]; kernel_rfl) | (rw [if_neg (by decide +kernel)]; exact ⟨rfl, rfl⟩))
    (fun os started H enc _ => binOne_lifted os started H enc)

end Go.Proofs.Ytojiaifdpaofdaa
#print axioms Go.Proofs.Ytojiaifdpaofdaa.binOne_holds
