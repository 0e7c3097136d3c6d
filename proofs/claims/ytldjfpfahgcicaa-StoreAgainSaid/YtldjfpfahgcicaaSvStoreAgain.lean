/- What comes once more changes nothing, and in two parts it is as at once. -/
import Derived.Test.YtldjfpfahgcicaaPart11
import Derived.Test.YtldjfpfahgcicaaRows
namespace Go.Proofs.Ytldjfpfahgcicaa
open Go Go.Bv Go.RowKit

theorem own : ownKnob Try.prog.godebug = none := by kernel_rfl
theorem laidOut : laidOutB Try.prog = true := by kernel_rfl

set_option maxRecDepth 100000 in
theorem storeAgain_law (q : List AV) (h : TyVs Try.prog 10 Try.f9.params.toList q) : ACalls Try.prog 9 q [] (.bool true) [] := by
  rw [Try.params9] at h
  obtain ⟨x0, _, rfl, t0, h⟩ := h.cons
  obtain ⟨x1, _, rfl, t1, h⟩ := h.cons
  obtain ⟨x2, _, rfl, t2, h⟩ := h.cons
  obtain rfl := h.nil
  obtain ⟨a0, rfl, h0⟩ := ty_Store t0
  obtain ⟨a1, rfl, h1⟩ := ty_LTxn t1
  obtain ⟨a2, rfl, h2⟩ := ty_i64 t2 Try.underlying3
  try rw [shOf_struct Try.underlying50]
  try rw [shOf_slice Try.underlying22]
  try rw [shOf_int Try.underlying3]
  exact storeAgain_walk a0 a1 a2 h0 h1.1 h1.2

set_option maxRecDepth 100000 in
theorem storeAgain_lifted (os : Os) (started : os.Started) (H : Type) (enc : TypeId × Value → H) :
    ReturnsInHanded {} Try.checked os 9 .any (Rows.storeAgainSpec.pre6 enc Try.prog Try.f9 Rows.storeAgainRow.domain false) (Rows.storeAgainSpec.post enc Try.prog Try.f9 false true false false) :=
  law_lifted (C := Try.checked) 10 started own laidOut rfl rfl (by kernel_rfl) Try.func9
    (ChangeSpec.witness6 (enc := enc) (C := Try.checked) false ⟨#[], #[.agg #[.slice none 0 0, .slice none 0 0], .slice none 0 0, .int .i64 0], []⟩ 8 (by kernel_rfl) (by kernel_rfl) (by kernel_rfl) (by kernel_rfl))
    4 (by kernel_rfl) Try.underlying4 (by kernel_rfl) (fun ds h => by match ds, h with | [d0, d1, d2], _ => rfl) storeAgain_law

set_option maxRecDepth 100000 in
/-- What comes once more changes nothing, and in two parts it is as at once. -/
theorem storeAgain_holds : Rows.StoreAgainSaid :=
  OpenClaim.holds_of_wide 9 Try.f9 rfl rfl rfl rfl rfl rfl rfl ⟨rfl, rfl, rfl, rfl, rfl⟩ rfl rfl rfl rfl rfl (by kernel_rfl) Try.func9 (by kernel_rfl)
    (of_decide_eq_true (by kernel_rfl)) (by unfold Func.isWrapper; first | (rw [if_pos (by decide +kernel)]; kernel_rfl) | (rw [if_neg (by decide +kernel)]; exact ⟨rfl, rfl⟩))
    (fun os started H enc _ => storeAgain_lifted os started H enc)

end Go.Proofs.Ytldjfpfahgcicaa
#print axioms Go.Proofs.Ytldjfpfahgcicaa.storeAgain_holds
