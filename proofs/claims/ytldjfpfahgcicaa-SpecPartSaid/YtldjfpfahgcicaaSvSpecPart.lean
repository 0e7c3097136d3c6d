/- Of a closed list what a closed vector has heard is closed, and its keys mean each by its own effects, where each effect takes away what stands under its own key. -/
import Derived.Test.YtldjfpfahgcicaaPart13
import Derived.Test.YtldjfpfahgcicaaPart12
import Derived.Test.YtldjfpfahgcicaaRows
namespace Go.Proofs.Ytldjfpfahgcicaa
open Go Go.Bv Go.RowKit

theorem own : ownKnob Try.prog.godebug = none := by kernel_rfl
theorem laidOut : laidOutB Try.prog = true := by kernel_rfl

set_option maxRecDepth 100000 in
theorem specPart_law (q : List AV) (h : TyVs Try.prog 10 Try.f5.params.toList q) : ACalls Try.prog 5 q [] (.bool true) [] := by
  rw [Try.params5] at h
  obtain ⟨x0, _, rfl, t0, h⟩ := h.cons
  obtain ⟨x1, _, rfl, t1, h⟩ := h.cons
  obtain ⟨x2, _, rfl, t2, h⟩ := h.cons
  obtain rfl := h.nil
  obtain ⟨a0, rfl, h0⟩ := ty_LTxn t0
  obtain ⟨a1, rfl, h1⟩ := ty_Vec t1
  obtain ⟨a2, rfl, h2⟩ := ty_str t2 Try.underlying9
  try rw [shOf_slice Try.underlying22]
  try rw [shOf_slice Try.underlying26]
  try rw [shOf_str Try.underlying9]
  exact specPart_walk a0 a1 a2 h0.1 h0.2 h1.1

set_option maxRecDepth 100000 in
theorem specPart_lifted (os : Os) (started : os.Started) (H : Type) (enc : TypeId × Value → H) :
    ReturnsInHanded {} Try.checked os 5 .any (Rows.specPartSpec.pre6 enc Try.prog Try.f5 Rows.specPartRow.domain false) (Rows.specPartSpec.post enc Try.prog Try.f5 false true false false) :=
  law_lifted (C := Try.checked) 10 started own laidOut rfl rfl (by kernel_rfl) Try.func5
    (ChangeSpec.witness6 (enc := enc) (C := Try.checked) false ⟨#[], #[.slice none 0 0, .slice none 0 0, .string ⟨#[]⟩], []⟩ 8 (by kernel_rfl) (by kernel_rfl) (by kernel_rfl) (by kernel_rfl))
    4 (by kernel_rfl) Try.underlying4 (by kernel_rfl) (fun ds h => by match ds, h with | [d0, d1, d2], _ => rfl) specPart_law

set_option maxRecDepth 100000 in
/-- Of a closed list what a closed vector has heard is closed, and its keys mean each by its own effects, where each effect takes away what stands under its own key. -/
theorem specPart_holds : Rows.SpecPartSaid :=
  OpenClaim.holds_of_wide 5 Try.f5 rfl rfl rfl rfl rfl rfl rfl ⟨rfl, rfl, rfl, rfl, rfl⟩ rfl rfl rfl rfl rfl (by kernel_rfl) Try.func5 (by kernel_rfl)
    (of_decide_eq_true (by kernel_rfl)) (by unfold Func.isWrapper; first | (rw [if_pos (by decide +kernel)]; kernel_rfl) | (rw [if_neg (by decide +kernel)]; exact ⟨rfl, rfl⟩))
    (fun os started H enc _ => specPart_lifted os started H enc)

end Go.Proofs.Ytldjfpfahgcicaa
#print axioms Go.Proofs.Ytldjfpfahgcicaa.specPart_holds
