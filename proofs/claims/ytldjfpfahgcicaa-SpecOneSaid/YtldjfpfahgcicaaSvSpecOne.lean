/- What one transaction means is what its effects make of nothing. -/
import Derived.Test.YtldjfpfahgcicaaPart12
import Derived.Test.YtldjfpfahgcicaaRows
namespace Go.Proofs.Ytldjfpfahgcicaa
open Go Go.Bv Go.RowKit

theorem own : ownKnob Try.prog.godebug = none := by kernel_rfl
theorem laidOut : laidOutB Try.prog = true := by kernel_rfl

set_option maxRecDepth 100000 in
theorem specOne_law (q : List AV) (h : TyVs Try.prog 10 Try.f4.params.toList q) : ACalls Try.prog 4 q [] (.bool true) [] := by
  rw [Try.params4] at h
  obtain ⟨x0, _, rfl, t0, h⟩ := h.cons
  obtain rfl := h.nil
  obtain ⟨a0, rfl, h0⟩ := ty_Txn t0
  try rw [shOf_struct Try.underlying29]
  exact specOne_walk a0 h0

set_option maxRecDepth 100000 in
theorem specOne_lifted (os : Os) (started : os.Started) (H : Type) (enc : TypeId × Value → H) :
    ReturnsInHanded {} Try.checked os 4 .any (Rows.specOneSpec.pre6 enc Try.prog Try.f4 Rows.specOneRow.domain false) (Rows.specOneSpec.post enc Try.prog Try.f4 false true false false) :=
  law_lifted (C := Try.checked) 10 started own laidOut rfl rfl (by kernel_rfl) Try.func4
    (ChangeSpec.witness6 (enc := enc) (C := Try.checked) false ⟨#[], #[.agg #[.int .i64 0, .int .i64 0, .slice none 0 0, .slice none 0 0]], []⟩ 8 (by kernel_rfl) (by kernel_rfl) (by kernel_rfl) (by kernel_rfl))
    4 (by kernel_rfl) Try.underlying4 (by kernel_rfl) (fun ds h => by match ds, h with | [d0], _ => rfl) specOne_law

set_option maxRecDepth 100000 in
/-- What one transaction means is what its effects make of nothing. -/
theorem specOne_holds : Rows.SpecOneSaid :=
  OpenClaim.holds_of_wide 4 Try.f4 rfl rfl rfl rfl rfl rfl rfl ⟨rfl, rfl, rfl, rfl, rfl⟩ rfl rfl rfl rfl rfl (by kernel_rfl) Try.func4 (by kernel_rfl)
    (of_decide_eq_true (by kernel_rfl)) (by unfold Func.isWrapper; first | (rw [if_pos (by decide +kernel)]; kernel_rfl) | (rw [if_neg (by decide +kernel)]; exact ⟨rfl, rfl⟩))
    (fun os started H enc _ => specOne_lifted os started H enc)

end Go.Proofs.Ytldjfpfahgcicaa
#print axioms Go.Proofs.Ytldjfpfahgcicaa.specOne_holds
