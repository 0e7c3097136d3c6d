/- What transactions mean hangs on no order, nor on one that is there twice. -/
import Derived.Test.YtldjfpfahgcicaaPart12
import Derived.Test.YtldjfpfahgcicaaRows
namespace Go.Proofs.Ytldjfpfahgcicaa
open Go Go.Bv Go.RowKit

theorem own : ownKnob Try.prog.godebug = none := by kernel_rfl
theorem laidOut : laidOutB Try.prog = true := by kernel_rfl

set_option maxRecDepth 100000 in
theorem specOrder_law (q : List AV) (h : TyVs Try.prog 10 Try.f3.params.toList q) : ACalls Try.prog 3 q [] (.bool true) [] := by
  rw [Try.params3] at h
  obtain ⟨x0, _, rfl, t0, h⟩ := h.cons
  obtain ⟨x1, _, rfl, t1, h⟩ := h.cons
  obtain rfl := h.nil
  obtain ⟨a0, rfl, h0⟩ := ty_LTxn t0
  obtain ⟨a1, rfl, h1⟩ := ty_i64 t1 Try.underlying3
  try rw [shOf_slice Try.underlying22]
  try rw [shOf_int Try.underlying3]
  exact specOrder_walk a0 a1 h0.1 h0.2

set_option maxRecDepth 100000 in
theorem specOrder_lifted (os : Os) (started : os.Started) (H : Type) (enc : TypeId × Value → H) :
    ReturnsInHanded {} Try.checked os 3 .any (Rows.specOrderSpec.pre6 enc Try.prog Try.f3 Rows.specOrderRow.domain false) (Rows.specOrderSpec.post enc Try.prog Try.f3 false true false false) :=
  law_lifted (C := Try.checked) 10 started own laidOut rfl rfl (by kernel_rfl) Try.func3
    (ChangeSpec.witness6 (enc := enc) (C := Try.checked) false ⟨#[], #[.slice none 0 0, .int .i64 0], []⟩ 8 (by kernel_rfl) (by kernel_rfl) (by kernel_rfl) (by kernel_rfl))
    4 (by kernel_rfl) Try.underlying4 (by kernel_rfl) (fun ds h => by match ds, h with | [d0, d1], _ => rfl) specOrder_law

set_option maxRecDepth 100000 in
/-- What transactions mean hangs on no order, nor on one that is there twice. -/
theorem specOrder_holds : Rows.SpecOrderSaid :=
  OpenClaim.holds_of_wide 3 Try.f3 rfl rfl rfl rfl rfl rfl rfl ⟨rfl, rfl, rfl, rfl, rfl⟩ rfl rfl rfl rfl rfl (by kernel_rfl) Try.func3 (by kernel_rfl)
    (of_decide_eq_true (by kernel_rfl)) (by unfold Func.isWrapper; first | (rw [if_pos (by decide +kernel)]; kernel_rfl) | (rw [if_neg (by decide +kernel)]; exact ⟨rfl, rfl⟩))
    (fun os started H enc _ => specOrder_lifted os started H enc)

end Go.Proofs.Ytldjfpfahgcicaa
#print axioms Go.Proofs.Ytldjfpfahgcicaa.specOrder_holds
