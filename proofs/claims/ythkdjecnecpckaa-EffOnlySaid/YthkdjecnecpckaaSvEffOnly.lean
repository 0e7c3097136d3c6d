/- What stands under a zone, behind effects. -/
import Derived.Test.YthkdjecnecpckaaPart11
import Derived.Test.YthkdjecnecpckaaRows
namespace Go.Proofs.Ythkdjecnecpckaa
open Go Go.Bv Go.RowKit

theorem own : ownKnob Try.prog.godebug = none := by kernel_rfl
theorem laidOut : laidOutB Try.prog = true := by kernel_rfl

set_option maxRecDepth 100000 in
theorem effOnly_law (q : List AV) (h : TyVs Try.prog 6 Try.f9.params.toList q) : ACalls Try.prog 9 q [] (.bool true) [] := by
  rw [Try.params9] at h
  obtain ⟨x0, _, rfl, t0, h⟩ := h.cons
  obtain ⟨x1, _, rfl, t1, h⟩ := h.cons
  obtain ⟨x2, _, rfl, t2, h⟩ := h.cons
  obtain ⟨x3, _, rfl, t3, h⟩ := h.cons
  obtain ⟨x4, _, rfl, t4, h⟩ := h.cons
  obtain rfl := h.nil
  obtain ⟨a0, rfl, h0⟩ := ty_LItem t0
  obtain ⟨a1, rfl, h1⟩ := ty_i64 t1 Try.underlying3
  obtain ⟨a2, rfl, h2⟩ := ty_i64 t2 Try.underlying3
  obtain ⟨a3, rfl, h3⟩ := ty_LEff t3
  obtain ⟨a4, rfl, h4⟩ := ty_Lstring t4
  try rw [shOf_slice Try.underlying52]
  try rw [shOf_int Try.underlying3]
  try rw [shOf_slice Try.underlying24]
  try rw [shOf_slice Try.underlying41]
  exact effOnlyL_walk a0 a1 a2 a3 a4 h0.1 h0.2 h3.1 h3.2 h4.1 h4.2

set_option maxRecDepth 100000 in
theorem effOnly_lifted (os : Os) (started : os.Started) (H : Type) (enc : TypeId × Value → H) :
    ReturnsInHanded {} Try.checked os 9 .any (Rows.effOnlySpec.pre6 enc Try.prog Try.f9 Rows.effOnlyRow.domain false) (Rows.effOnlySpec.post enc Try.prog Try.f9 false true false false) :=
  law_lifted (C := Try.checked) 6 started own laidOut rfl rfl (by kernel_rfl) Try.func9
    (ChangeSpec.witness6 (enc := enc) (C := Try.checked) false ⟨#[], #[.slice none 0 0, .int .i64 0, .int .i64 0, .slice none 0 0, .slice none 0 0], []⟩ 8 (by kernel_rfl) (by kernel_rfl) (by kernel_rfl) (by kernel_rfl))
    4 (by kernel_rfl) Try.underlying4 (by kernel_rfl) (fun ds h => by match ds, h with | [d0, d1, d2, d3, d4], _ => rfl) effOnly_law

/-- What stands under a zone, behind effects. -/
theorem effOnly_holds : Rows.EffOnlySaid :=
  OpenClaim.holds_of_wide 9 Try.f9 rfl rfl rfl rfl rfl rfl rfl ⟨rfl, rfl, rfl, rfl, rfl⟩ rfl rfl rfl rfl rfl (by kernel_rfl) Try.func9 (by kernel_rfl)
    (of_decide_eq_true (by kernel_rfl)) (by unfold Func.isWrapper; first | (rw [if_pos (by decide +kernel)]; kernel_rfl) | (rw [if_neg (by decide +kernel)]; exact ⟨rfl, rfl⟩))
    (fun os started H enc _ => effOnly_lifted os started H enc)

end Go.Proofs.Ythkdjecnecpckaa
#print axioms Go.Proofs.Ythkdjecnecpckaa.effOnly_holds
