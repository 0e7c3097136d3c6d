/- A sound store stays sound, whatever transactions come. -/
import Derived.Test.YtldjfpfahgcicaaPart11
import Derived.Test.YtldjfpfahgcicaaRows
namespace Go.Proofs.Ytldjfpfahgcicaa
open Go Go.Bv Go.RowKit

theorem own : ownKnob Try.prog.godebug = none := by kernel_rfl
theorem laidOut : laidOutB Try.prog = true := by kernel_rfl

set_option maxRecDepth 100000 in
theorem storeSound_law (q : List AV) (h : TyVs Try.prog 10 Try.f7.params.toList q) : ACalls Try.prog 7 q [] (.bool true) [] := by
  rw [Try.params7] at h
  obtain ⟨x0, _, rfl, t0, h⟩ := h.cons
  obtain ⟨x1, _, rfl, t1, h⟩ := h.cons
  obtain rfl := h.nil
  obtain ⟨a0, rfl, h0⟩ := ty_Store t0
  obtain ⟨a1, rfl, h1⟩ := ty_LTxn t1
  try rw [shOf_struct Try.underlying50]
  try rw [shOf_slice Try.underlying22]
  exact storeSound_walk a0 a1 h0 h1.1 h1.2

set_option maxRecDepth 100000 in
theorem storeSound_lifted (os : Os) (started : os.Started) (H : Type) (enc : TypeId × Value → H) :
    ReturnsInHanded {} Try.checked os 7 .any (Rows.storeSoundSpec.pre6 enc Try.prog Try.f7 Rows.storeSoundRow.domain false) (Rows.storeSoundSpec.post enc Try.prog Try.f7 false true false false) :=
  law_lifted (C := Try.checked) 10 started own laidOut rfl rfl (by kernel_rfl) Try.func7
    (ChangeSpec.witness6 (enc := enc) (C := Try.checked) false ⟨#[], #[.agg #[.slice none 0 0, .slice none 0 0], .slice none 0 0], []⟩ 8 (by kernel_rfl) (by kernel_rfl) (by kernel_rfl) (by kernel_rfl))
    4 (by kernel_rfl) Try.underlying4 (by kernel_rfl) (fun ds h => by match ds, h with | [d0, d1], _ => rfl) storeSound_law

set_option maxRecDepth 100000 in
/-- A sound store stays sound, whatever transactions come. -/
theorem storeSound_holds : Rows.StoreSoundSaid :=
  OpenClaim.holds_of_wide 7 Try.f7 rfl rfl rfl rfl rfl rfl rfl ⟨rfl, rfl, rfl, rfl, rfl⟩ rfl rfl rfl rfl rfl (by kernel_rfl) Try.func7 (by kernel_rfl)
    (of_decide_eq_true (by kernel_rfl)) (by unfold Func.isWrapper; first | (rw [if_pos (by decide +kernel)]; kernel_rfl) | (rw [if_neg (by decide +kernel)]; exact ⟨rfl, rfl⟩))
    (fun os started H enc _ => storeSound_lifted os started H enc)

end Go.Proofs.Ytldjfpfahgcicaa
#print axioms Go.Proofs.Ytldjfpfahgcicaa.storeSound_holds
