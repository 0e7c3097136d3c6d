/- What two vectors have heard, one behind the other, is what both have heard together: the statement QueueHeard of the given program, for every input (24 transactions). -/
import Derived.Test.YtkehoabgejdpgaaSvQueueL
import Derived.Test.YtkehoabgejdpgaaSvOrdTy
import Derived.Test.YtkehoabgejdpgaaRows
namespace Go.Proofs.Ytkehoabgejdpgaa
open Go Go.Bv Go.RowKit

theorem own : ownKnob Try.prog.godebug = none := by kernel_rfl
theorem laidOut : laidOutB Try.prog = true := by kernel_rfl

set_option maxRecDepth 100000 in
theorem queueHeard_law (q : List AV) (h : TyVs Try.prog 10 Try.f10.params.toList q) : ACalls Try.prog 10 q [] (.bool true) [] := by
  rw [Try.params10] at h
  obtain ⟨x0, _, rfl, t0, h⟩ := h.cons
  obtain ⟨x1, _, rfl, t1, h⟩ := h.cons
  obtain ⟨x2, _, rfl, t2, h⟩ := h.cons
  obtain rfl := h.nil
  obtain ⟨a0, rfl, h0⟩ := ty_Queue t0
  obtain ⟨a1, rfl, h1⟩ := ty_Vec t1
  obtain ⟨a2, rfl, h2⟩ := ty_Vec t2
  try rw [shOf_struct Try.underlying45]
  try rw [shOf_slice Try.underlying23]
  exact queueHeard_walk a0 a1 a2 h0 h1.1 h2.1

set_option maxRecDepth 100000 in
theorem queueHeard_lifted (os : Os) (started : os.Started) (H : Type) (enc : TypeId × Value → H) :
    ReturnsInHanded {} Try.checked os 10 .any (Rows.queueHeardSpec.pre6 enc Try.prog Try.f10 Rows.queueHeardRow.domain false) (Rows.queueHeardSpec.post enc Try.prog Try.f10 false true false false) :=
  law_lifted (C := Try.checked) 10 started own laidOut rfl rfl (by kernel_rfl) Try.func10
    (ChangeSpec.witness6 (enc := enc) (C := Try.checked) false ⟨#[], #[.agg #[.int .i64 0, .slice none 0 0], .slice none 0 0, .slice none 0 0], []⟩ 8 (by kernel_rfl) (by kernel_rfl) (by kernel_rfl) (by kernel_rfl))
    4 (by kernel_rfl) Try.underlying4 (by kernel_rfl) (fun ds h => by match ds, h with | [d0, d1, d2], _ => rfl) queueHeard_law

/-- What two vectors have heard, one behind the other, is what both have heard together: the statement QueueHeard of the given program, for every input (24 transactions). -/
theorem queueHeard_holds : Rows.QueueHeardSaid :=
  OpenClaim.holds_of_wide 10 Try.f10 rfl rfl rfl rfl rfl rfl rfl ⟨rfl, rfl, rfl, rfl, rfl⟩ rfl rfl rfl rfl rfl (by kernel_rfl) Try.func10 (by kernel_rfl)
    (of_decide_eq_true (by kernel_rfl)) (by unfold Func.isWrapper; first | (rw [if_pos (by decide +kernel)]; kernel_rfl) | (rw [if_neg (by decide +kernel)]; exact ⟨rfl, rfl⟩))
    (fun os started H enc _ => queueHeard_lifted os started H enc)

end Go.Proofs.Ytkehoabgejdpgaa
#print axioms Go.Proofs.Ytkehoabgejdpgaa.queueHeard_holds
