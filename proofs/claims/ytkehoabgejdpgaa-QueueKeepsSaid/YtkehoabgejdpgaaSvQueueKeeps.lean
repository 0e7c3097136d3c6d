/- What waits is transactions of one node, one number after the other, within the bound; what was heard, from the first on, waits no more: the statement QueueKeeps of the given program, for every input (40 steps). -/
import Derived.Test.YtkehoabgejdpgaaSvQueueL
import Derived.Test.YtkehoabgejdpgaaSvOrdTy
import Derived.Test.YtkehoabgejdpgaaRows
namespace Go.Proofs.Ytkehoabgejdpgaa
open Go Go.Bv Go.RowKit

theorem own : ownKnob Try.prog.godebug = none := by kernel_rfl
theorem laidOut : laidOutB Try.prog = true := by kernel_rfl

set_option maxRecDepth 100000 in
theorem queueKeeps_law (q : List AV) (h : TyVs Try.prog 10 Try.f9.params.toList q) : ACalls Try.prog 9 q [] (.bool true) [] := by
  rw [Try.params9] at h
  obtain ⟨x0, _, rfl, t0, h⟩ := h.cons
  obtain ⟨x1, _, rfl, t1, h⟩ := h.cons
  obtain rfl := h.nil
  obtain ⟨a0, rfl, h0⟩ := ty_i64 t0 Try.underlying3
  obtain ⟨a1, rfl, h1⟩ := ty_LOp20 t1
  try rw [shOf_int Try.underlying3]
  try rw [shOf_slice Try.underlying57]
  exact queueKeeps_walk a0 a1 h1.1 h1.2

set_option maxRecDepth 100000 in
theorem queueKeeps_lifted (os : Os) (started : os.Started) (H : Type) (enc : TypeId × Value → H) :
    ReturnsInHanded {} Try.checked os 9 .any (Rows.queueKeepsSpec.pre6 enc Try.prog Try.f9 Rows.queueKeepsRow.domain false) (Rows.queueKeepsSpec.post enc Try.prog Try.f9 false true false false) :=
  law_lifted (C := Try.checked) 10 started own laidOut rfl rfl (by kernel_rfl) Try.func9
    (ChangeSpec.witness6 (enc := enc) (C := Try.checked) false ⟨#[], #[.int .i64 0, .slice none 0 0], []⟩ 8 (by kernel_rfl) (by kernel_rfl) (by kernel_rfl) (by kernel_rfl))
    4 (by kernel_rfl) Try.underlying4 (by kernel_rfl) (fun ds h => by match ds, h with | [d0, d1], _ => rfl) queueKeeps_law

/-- What waits is transactions of one node, one number after the other, within the bound; what was heard, from the first on, waits no more: the statement QueueKeeps of the given program, for every input (40 steps). -/
theorem queueKeeps_holds : Rows.QueueKeepsSaid :=
  OpenClaim.holds_of_wide 9 Try.f9 rfl rfl rfl rfl rfl rfl rfl ⟨rfl, rfl, rfl, rfl, rfl⟩ rfl rfl rfl rfl rfl (by kernel_rfl) Try.func9 (by kernel_rfl)
    (of_decide_eq_true (by kernel_rfl)) (by unfold Func.isWrapper; first | (rw [if_pos (by decide +kernel)]; kernel_rfl) | (rw [if_neg (by decide +kernel)]; exact ⟨rfl, rfl⟩))
    (fun os started H enc _ => queueKeeps_lifted os started H enc)

end Go.Proofs.Ytkehoabgejdpgaa
#print axioms Go.Proofs.Ytkehoabgejdpgaa.queueKeeps_holds
