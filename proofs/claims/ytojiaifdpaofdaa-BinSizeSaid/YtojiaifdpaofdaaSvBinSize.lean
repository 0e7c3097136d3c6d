/- A number has as many bytes as its bits need, seven a byte, and the greater one never has fewer: the statement BinSize of the given program, for every input. -/
import Derived.Test.YtojiaifdpaofdaaSvBinL
import Derived.Test.YtojiaifdpaofdaaRows
namespace Go.Proofs.Ytojiaifdpaofdaa
open Go Go.Bv Go.RowKit

theorem own : ownKnob Try.prog.godebug = none := by kernel_rfl
theorem laidOut : laidOutB Try.prog = true := by kernel_rfl

set_option maxRecDepth 100000 in
theorem binSize_law (q : List AV) (h : TyVs Try.prog 4 Try.f3.params.toList q) : ACalls Try.prog 3 q [] (.bool true) [] := by
  rw [Try.params3] at h
  obtain ⟨xs, _, rfl, h1, h⟩ := h.cons
  obtain ⟨ys, _, rfl, h2, h⟩ := h.cons
  obtain rfl := h.nil
  obtain ⟨x, rfl, _⟩ := ty_i64 h1 Try.underlying3
  obtain ⟨y, rfl, _⟩ := ty_i64 h2 Try.underlying3
  rw [shOf_int Try.underlying3]
  exact binSize_walk x y

set_option maxRecDepth 100000 in
theorem binSize_lifted (os : Os) (started : os.Started) (H : Type) (enc : TypeId × Value → H) :
    ReturnsInHanded {} Try.checked os 3 .any (Rows.binSizeSpec.pre6 enc Try.prog Try.f3 Rows.binSizeRow.domain false) (Rows.binSizeSpec.post enc Try.prog Try.f3 false true false false) :=
  law_lifted (C := Try.checked) 4 started own laidOut rfl rfl (by kernel_rfl) Try.func3
    (ChangeSpec.witness6 (enc := enc) (C := Try.checked) false ⟨#[], #[.int .i64 0, .int .i64 0], []⟩ 8 (by kernel_rfl) (by kernel_rfl) (by kernel_rfl) (by kernel_rfl))
    4 (by kernel_rfl) Try.underlying4 (by kernel_rfl) (fun ds h => by match ds, h with | [d0, d1], _ => rfl) binSize_law

/-- A number has as many bytes as its bits need, seven a byte, and the greater one never has fewer: the statement BinSize of the given program, for every input. -/
theorem binSize_holds : Rows.BinSizeSaid :=
  OpenClaim.holds_of_wide 3 Try.f3 rfl rfl rfl rfl rfl rfl rfl ⟨rfl, rfl, rfl, rfl, rfl⟩ rfl rfl rfl rfl rfl (by kernel_rfl) Try.func3 (by kernel_rfl)
    (of_decide_eq_true (by kernel_rfl)) (by unfold Func.isWrapper; first | (rw [if_pos (by decide +kernel)]; kernel_rfl) | (rw [if_neg (by decide +kernel)]; exact ⟨rfl, rfl⟩))
    (fun os started H enc _ => binSize_lifted os started H enc)

end Go.Proofs.Ytojiaifdpaofdaa
#print axioms Go.Proofs.Ytojiaifdpaofdaa.binSize_holds
