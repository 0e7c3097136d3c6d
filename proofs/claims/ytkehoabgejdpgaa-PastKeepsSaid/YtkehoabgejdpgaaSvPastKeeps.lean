/- Whoever heard at least what was pruned, and is closed, is told a chain, behind which all that the end has is heard: the statement PastKeeps of the given program, for every input (24 transactions). -/
import Derived.Test.YtkehoabgejdpgaaSvPastL
import Derived.Test.YtkehoabgejdpgaaSvOrdTy
import Derived.Test.YtkehoabgejdpgaaRows
namespace Go.Proofs.Ytkehoabgejdpgaa
open Go Go.Bv Go.RowKit

theorem own : ownKnob Try.prog.godebug = none := by kernel_rfl
theorem laidOut : laidOutB Try.prog = true := by kernel_rfl

set_option maxRecDepth 100000 in
theorem pastKeeps_law (q : List AV) (h : TyVs Try.prog 10 Try.f12.params.toList q) : ACalls Try.prog 12 q [] (.bool true) [] := by
  rw [Try.params12] at h
  obtain ⟨x0, _, rfl, t0, h⟩ := h.cons
  obtain ⟨x1, _, rfl, t1, h⟩ := h.cons
  obtain rfl := h.nil
  obtain ⟨a0, rfl, h0⟩ := ty_Past t0
  obtain ⟨a1, rfl, h1⟩ := ty_Vec t1
  try rw [shOf_struct Try.underlying64]
  try rw [shOf_slice Try.underlying23]
  exact pastKeeps_walk a0 a1 h0 h1.1

set_option maxRecDepth 100000 in
theorem pastKeeps_lifted (os : Os) (started : os.Started) (H : Type) (enc : TypeId × Value → H) :
    ReturnsInHanded {} Try.checked os 12 .any (Rows.pastKeepsSpec.pre6 enc Try.prog Try.f12 Rows.pastKeepsRow.domain false) (Rows.pastKeepsSpec.post enc Try.prog Try.f12 false true false false) :=
  law_lifted (C := Try.checked) 10 started own laidOut rfl rfl (by kernel_rfl) Try.func12
    (ChangeSpec.witness6 (enc := enc) (C := Try.checked) false ⟨#[], #[.agg #[.slice none 0 0, .slice none 0 0], .slice none 0 0], []⟩ 8 (by kernel_rfl) (by kernel_rfl) (by kernel_rfl) (by kernel_rfl))
    4 (by kernel_rfl) Try.underlying4 (by kernel_rfl) (fun ds h => by match ds, h with | [d0, d1], _ => rfl) pastKeeps_law

/-- Whoever heard at least what was pruned, and is closed, is told a chain, behind which all that the end has is heard: the statement PastKeeps of the given program, for every input (24 transactions). -/
theorem pastKeeps_holds : Rows.PastKeepsSaid :=
  OpenClaim.holds_of_wide 12 Try.f12 rfl rfl rfl rfl rfl rfl rfl ⟨rfl, rfl, rfl, rfl, rfl⟩ rfl rfl rfl rfl rfl (by kernel_rfl) Try.func12 (by kernel_rfl)
    (of_decide_eq_true (by kernel_rfl)) (by unfold Func.isWrapper; first | (rw [if_pos (by decide +kernel)]; kernel_rfl) | (rw [if_neg (by decide +kernel)]; exact ⟨rfl, rfl⟩))
    (fun os started H enc _ => pastKeeps_lifted os started H enc)

end Go.Proofs.Ytkehoabgejdpgaa
#print axioms Go.Proofs.Ytkehoabgejdpgaa.pastKeeps_holds
