/- In whatever order transactions come, no two of one dot, they leave the same store. -/
import Derived.Test.YtldjfpfahgcicaaPart11
import Derived.Test.YtldjfpfahgcicaaRows
namespace Go.Proofs.Ytldjfpfahgcicaa
open Go Go.Bv Go.RowKit

theorem own : ownKnob Try.prog.godebug = none := by kernel_rfl
theorem laidOut : laidOutB Try.prog = true := by kernel_rfl

set_option maxRecDepth 100000 in
theorem storeAny_law (q : List AV) (h : TyVs Try.prog 10 Try.f8.params.toList q) : ACalls Try.prog 8 q [] (.bool true) [] := by
  rw [Try.params8] at h
  obtain ⟨x0, _, rfl, t0, h⟩ := h.cons
  obtain ⟨x1, _, rfl, t1, h⟩ := h.cons
  obtain ⟨x2, _, rfl, t2, h⟩ := h.cons
  obtain rfl := h.nil
  obtain ⟨a0, rfl, h0⟩ := ty_Store t0
  obtain ⟨a1, rfl, h1⟩ := ty_LTxn t1
  obtain ⟨a2, rfl, h2⟩ := ty_i64 t2 Try.underlying3
  try rw [shOf_struct Try.underlying50]
  try rw [shOf_slice Try.underlying22]
  try rw [shOf_int Try.underlying3]
  exact storeAny_walk a0 a1 a2 h0 h1.1 h1.2

set_option maxRecDepth 100000 in
theorem storeAny_lifted (os : Os) (started : os.Started) (H : Type) (enc : TypeId × Value → H) :
    ReturnsInHanded {} Try.checked os 8 .any (Rows.storeAnySpec.pre6 enc Try.prog Try.f8 Rows.storeAnyRow.domain false) (Rows.storeAnySpec.post enc Try.prog Try.f8 false true false false) :=
  law_lifted (C := Try.checked) 10 started own laidOut rfl rfl (by kernel_rfl) Try.func8
    (ChangeSpec.witness6 (enc := enc) (C := Try.checked) false ⟨#[], #[.agg #[.slice none 0 0, .slice none 0 0], .slice none 0 0, .int .i64 0], []⟩ 8 (by kernel_rfl) (by kernel_rfl) (by kernel_rfl) (by kernel_rfl))
    4 (by kernel_rfl) Try.underlying4 (by kernel_rfl) (fun ds h => by match ds, h with | [d0, d1, d2], _ => rfl) storeAny_law

set_option maxRecDepth 100000 in
/-- In whatever order transactions come, no two of one dot, they leave the same store. -/
theorem storeAny_holds : Rows.StoreAnySaid :=
  OpenClaim.holds_of_wide 8 Try.f8 rfl rfl rfl rfl rfl rfl rfl ⟨rfl, rfl, rfl, rfl, rfl⟩ rfl rfl rfl rfl rfl (by kernel_rfl) Try.func8 (by kernel_rfl)
    (of_decide_eq_true (by kernel_rfl)) (by unfold Func.isWrapper; first | (rw [if_pos (by decide +kernel)]; kernel_rfl) | (rw [if_neg (by decide +kernel)]; exact ⟨rfl, rfl⟩))
    (fun os started H enc _ => storeAny_lifted os started H enc)

end Go.Proofs.Ytldjfpfahgcicaa
#print axioms Go.Proofs.Ytldjfpfahgcicaa.storeAny_holds
