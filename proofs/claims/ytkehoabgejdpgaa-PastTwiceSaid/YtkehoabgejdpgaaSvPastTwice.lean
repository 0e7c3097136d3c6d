/- Pruned once more to the same a past is the same; pruned to nothing it stays: the statement PastTwice of the given program, for every input (24 transactions). -/
import Derived.Test.YtkehoabgejdpgaaSvPastL
import Derived.Test.YtkehoabgejdpgaaSvOrdTy
import Derived.Test.YtkehoabgejdpgaaRows
namespace Go.Proofs.Ytkehoabgejdpgaa
open Go Go.Bv Go.RowKit

theorem own : ownKnob Try.prog.godebug = none := by kernel_rfl
theorem laidOut : laidOutB Try.prog = true := by kernel_rfl

set_option maxRecDepth 100000 in
theorem pastTwice_law (q : List AV) (h : TyVs Try.prog 10 Try.f15.params.toList q) : ACalls Try.prog 15 q [] (.bool true) [] := by
  rw [Try.params15] at h
  obtain ⟨x0, _, rfl, t0, h⟩ := h.cons
  obtain ⟨x1, _, rfl, t1, h⟩ := h.cons
  obtain rfl := h.nil
  obtain ⟨a0, rfl, h0⟩ := ty_Past t0
  obtain ⟨a1, rfl, h1⟩ := ty_Vec t1
  try rw [shOf_struct Try.underlying64]
  try rw [shOf_slice Try.underlying23]
  exact pastTwice_walk a0 a1 h0 h1.1

set_option maxRecDepth 100000 in
theorem pastTwice_lifted (os : Os) (started : os.Started) (H : Type) (enc : TypeId × Value → H) :
    ReturnsInHanded {} Try.checked os 15 .any (Rows.pastTwiceSpec.pre6 enc Try.prog Try.f15 Rows.pastTwiceRow.domain false) (Rows.pastTwiceSpec.post enc Try.prog Try.f15 false true false false) :=
  law_lifted (C := Try.checked) 10 started own laidOut rfl rfl (by kernel_rfl) Try.func15
    (ChangeSpec.witness6 (enc := enc) (C := Try.checked) false ⟨#[], #[.agg #[.slice none 0 0, .slice none 0 0], .slice none 0 0], []⟩ 8 (by kernel_rfl) (by kernel_rfl) (by kernel_rfl) (by kernel_rfl))
    4 (by kernel_rfl) Try.underlying4 (by kernel_rfl) (fun ds h => by match ds, h with | [d0, d1], _ => rfl) pastTwice_law

/-- Pruned once more to the same a past is the same; pruned to nothing it stays: the statement PastTwice of the given program, for every input (24 transactions). -/
theorem pastTwice_holds : Rows.PastTwiceSaid :=
  OpenClaim.holds_of_wide 15 Try.f15 rfl rfl rfl rfl rfl rfl rfl ⟨rfl, rfl, rfl, rfl, rfl⟩ rfl rfl rfl rfl rfl (by kernel_rfl) Try.func15 (by kernel_rfl)
    (of_decide_eq_true (by kernel_rfl)) (by unfold Func.isWrapper; first | (rw [if_pos (by decide +kernel)]; kernel_rfl) | (rw [if_neg (by decide +kernel)]; exact ⟨rfl, rfl⟩))
    (fun os started H enc _ => pastTwice_lifted os started H enc)

end Go.Proofs.Ytkehoabgejdpgaa
#print axioms Go.Proofs.Ytkehoabgejdpgaa.pastTwice_holds
