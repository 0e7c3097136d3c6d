/- Right effects, done once more. -/
import Derived.Test.YthkdjecnecpckaaPart11
import Derived.Test.YthkdjecnecpckaaRows
namespace Go.Proofs.Ythkdjecnecpckaa
open Go Go.Bv Go.RowKit

theorem own : ownKnob Try.prog.godebug = none := by kernel_rfl
theorem laidOut : laidOutB Try.prog = true := by kernel_rfl

set_option maxRecDepth 100000 in
theorem effAgain_law (q : List AV) (h : TyVs Try.prog 6 Try.f8.params.toList q) : ACalls Try.prog 8 q [] (.bool true) [] := by
  rw [Try.params8] at h
  obtain ⟨x0, _, rfl, t0, h⟩ := h.cons
  obtain ⟨x1, _, rfl, t1, h⟩ := h.cons
  obtain ⟨x2, _, rfl, t2, h⟩ := h.cons
  obtain ⟨x3, _, rfl, t3, h⟩ := h.cons
  obtain rfl := h.nil
  obtain ⟨a0, rfl, h0⟩ := ty_LItem t0
  obtain ⟨a1, rfl, h1⟩ := ty_i64 t1 Try.underlying3
  obtain ⟨a2, rfl, h2⟩ := ty_i64 t2 Try.underlying3
  obtain ⟨a3, rfl, h3⟩ := ty_LEff t3
  try rw [shOf_slice Try.underlying52]
  try rw [shOf_int Try.underlying3]
  try rw [shOf_slice Try.underlying24]
  exact effAgain_walk a0 a1 a2 a3 h0.1 h0.2 h3.1 h3.2

set_option maxRecDepth 100000 in
theorem effAgain_lifted (os : Os) (started : os.Started) (H : Type) (enc : TypeId × Value → H) :
    ReturnsInHanded {} Try.checked os 8 .any (Rows.effAgainSpec.pre6 enc Try.prog Try.f8 Rows.effAgainRow.domain false) (Rows.effAgainSpec.post enc Try.prog Try.f8 false true false false) :=
  law_lifted (C := Try.checked) 6 started own laidOut rfl rfl (by kernel_rfl) Try.func8
    (ChangeSpec.witness6 (enc := enc) (C := Try.checked) false ⟨#[], #[.slice none 0 0, .int .i64 0, .int .i64 0, .slice none 0 0], []⟩ 8 (by kernel_rfl) (by kernel_rfl) (by kernel_rfl) (by kernel_rfl))
    4 (by kernel_rfl) Try.underlying4 (by kernel_rfl) (fun ds h => by match ds, h with | [d0, d1, d2, d3], _ => rfl) effAgain_law

/-- Right effects, done once more. -/
theorem effAgain_holds : Rows.EffAgainSaid :=
  OpenClaim.holds_of_wide 8 Try.f8 rfl rfl rfl rfl rfl rfl rfl ⟨rfl, rfl, rfl, rfl, rfl⟩ rfl rfl rfl rfl rfl (by kernel_rfl) Try.func8 (by kernel_rfl)
    (of_decide_eq_true (by kernel_rfl)) (by unfold Func.isWrapper; first | (rw [if_pos (by decide +kernel)]; kernel_rfl) | (rw [if_neg (by decide +kernel)]; exact ⟨rfl, rfl⟩))
    (fun os started H enc _ => effAgain_lifted os started H enc)

end Go.Proofs.Ythkdjecnecpckaa
#print axioms Go.Proofs.Ythkdjecnecpckaa.effAgain_holds
