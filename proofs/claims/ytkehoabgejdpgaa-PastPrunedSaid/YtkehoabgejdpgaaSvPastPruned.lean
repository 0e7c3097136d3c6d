/- Pruned to a closed vector a past is sound, its end is the same; and whoever heard that much is told what it was told ahead of it: the statement PastPruned of the given program, for every input (24 transactions). -/
import Derived.Test.YtkehoabgejdpgaaSvPastL
import Derived.Test.YtkehoabgejdpgaaSvOrdTy
import Derived.Test.YtkehoabgejdpgaaRows
namespace Go.Proofs.Ytkehoabgejdpgaa
open Go Go.Bv Go.RowKit

theorem own : ownKnob Try.prog.godebug = none := by kernel_rfl
theorem laidOut : laidOutB Try.prog = true := by kernel_rfl

set_option maxRecDepth 100000 in
theorem pastPruned_law (q : List AV) (h : TyVs Try.prog 10 Try.f14.params.toList q) : ACalls Try.prog 14 q [] (.bool true) [] := by
  rw [Try.params14] at h
  obtain ⟨x0, _, rfl, t0, h⟩ := h.cons
  obtain ⟨x1, _, rfl, t1, h⟩ := h.cons
  obtain ⟨x2, _, rfl, t2, h⟩ := h.cons
  obtain rfl := h.nil
  obtain ⟨a0, rfl, h0⟩ := ty_Past t0
  obtain ⟨a1, rfl, h1⟩ := ty_Vec t1
  obtain ⟨a2, rfl, h2⟩ := ty_Vec t2
  try rw [shOf_struct Try.underlying64]
  try rw [shOf_slice Try.underlying23]
  exact pastPruned_walk a0 a1 a2 h0 h1.1 h2.1

set_option maxRecDepth 100000 in
theorem pastPruned_lifted (os : Os) (started : os.Started) (H : Type) (enc : TypeId × Value → H) :
    ReturnsInHanded {} Try.checked os 14 .any (Rows.pastPrunedSpec.pre6 enc Try.prog Try.f14 Rows.pastPrunedRow.domain false) (Rows.pastPrunedSpec.post enc Try.prog Try.f14 false true false false) :=
  law_lifted (C := Try.checked) 10 started own laidOut rfl rfl (by kernel_rfl) Try.func14
    (ChangeSpec.witness6 (enc := enc) (C := Try.checked) false ⟨#[], #[.agg #[.slice none 0 0, .slice none 0 0], .slice none 0 0, .slice none 0 0], []⟩ 8 (by kernel_rfl) (by kernel_rfl) (by kernel_rfl) (by kernel_rfl))
    4 (by kernel_rfl) Try.underlying4 (by kernel_rfl) (fun ds h => by match ds, h with | [d0, d1, d2], _ => rfl) pastPruned_law

/-- Pruned to a closed vector a past is sound, its end is the same; and whoever heard that much is told what it was told ahead of it: the statement PastPruned of the given program, for every input (24 transactions). -/
theorem pastPruned_holds : Rows.PastPrunedSaid :=
  OpenClaim.holds_of_wide 14 Try.f14 rfl rfl rfl rfl rfl rfl rfl ⟨rfl, rfl, rfl, rfl, rfl⟩ rfl rfl rfl rfl rfl (by kernel_rfl) Try.func14 (by kernel_rfl)
    (of_decide_eq_true (by kernel_rfl)) (by unfold Func.isWrapper; first | (rw [if_pos (by decide +kernel)]; kernel_rfl) | (rw [if_neg (by decide +kernel)]; exact ⟨rfl, rfl⟩))
    (fun os started H enc _ => pastPruned_lifted os started H enc)

end Go.Proofs.Ytkehoabgejdpgaa
#print axioms Go.Proofs.Ytkehoabgejdpgaa.pastPruned_holds
