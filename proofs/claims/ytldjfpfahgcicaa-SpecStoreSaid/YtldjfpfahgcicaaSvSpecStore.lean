/- A store that heard a closed list has done all of it, and holds just what it means. -/
import Derived.Test.YtldjfpfahgcicaaPart12
import Derived.Test.YtldjfpfahgcicaaRows
namespace Go.Proofs.Ytldjfpfahgcicaa
open Go Go.Bv Go.RowKit

theorem own : ownKnob Try.prog.godebug = none := by kernel_rfl
theorem laidOut : laidOutB Try.prog = true := by kernel_rfl

set_option maxRecDepth 100000 in
theorem specStore_law (q : List AV) (h : TyVs Try.prog 10 Try.f6.params.toList q) : ACalls Try.prog 6 q [] (.bool true) [] := by
  rw [Try.params6] at h
  obtain ⟨x0, _, rfl, t0, h⟩ := h.cons
  obtain rfl := h.nil
  obtain ⟨a0, rfl, h0⟩ := ty_LTxn t0
  try rw [shOf_slice Try.underlying22]
  exact specStore_walk a0 h0.1 h0.2

set_option maxRecDepth 100000 in
theorem specStore_lifted (os : Os) (started : os.Started) (H : Type) (enc : TypeId × Value → H) :
    ReturnsInHanded {} Try.checked os 6 .any (Rows.specStoreSpec.pre6 enc Try.prog Try.f6 Rows.specStoreRow.domain false) (Rows.specStoreSpec.post enc Try.prog Try.f6 false true false false) :=
  law_lifted (C := Try.checked) 10 started own laidOut rfl rfl (by kernel_rfl) Try.func6
    (ChangeSpec.witness6 (enc := enc) (C := Try.checked) false ⟨#[], #[.slice none 0 0], []⟩ 8 (by kernel_rfl) (by kernel_rfl) (by kernel_rfl) (by kernel_rfl))
    4 (by kernel_rfl) Try.underlying4 (by kernel_rfl) (fun ds h => by match ds, h with | [d0], _ => rfl) specStore_law

set_option maxRecDepth 100000 in
/-- A store that heard a closed list has done all of it, and holds just what it means. -/
theorem specStore_holds : Rows.SpecStoreSaid :=
  OpenClaim.holds_of_wide 6 Try.f6 rfl rfl rfl rfl rfl rfl rfl ⟨rfl, rfl, rfl, rfl, rfl⟩ rfl rfl rfl rfl rfl (by kernel_rfl) Try.func6 (by kernel_rfl)
    (of_decide_eq_true (by kernel_rfl)) (by unfold Func.isWrapper; first | (rw [if_pos (by decide +kernel)]; kernel_rfl) | (rw [if_neg (by decide +kernel)]; exact ⟨rfl, rfl⟩))
    (fun os started H enc _ => specStore_lifted os started H enc)

end Go.Proofs.Ytldjfpfahgcicaa
#print axioms Go.Proofs.Ytldjfpfahgcicaa.specStore_holds
