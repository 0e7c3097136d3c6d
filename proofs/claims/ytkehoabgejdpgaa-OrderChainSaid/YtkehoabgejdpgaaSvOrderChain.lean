/- What is taken is a chain; taken from it again it is all of it; and of what was left nothing is ready: the statement OrderChain of the given program, for every input (24 transactions). -/
import Derived.Test.YtkehoabgejdpgaaSvOrdLaw2
import Derived.Test.YtkehoabgejdpgaaSvOrdTy
import Derived.Test.YtkehoabgejdpgaaRows
namespace Go.Proofs.Ytkehoabgejdpgaa
open Go Go.Bv Go.RowKit

theorem own : ownKnob Try.prog.godebug = none := by kernel_rfl
theorem laidOut : laidOutB Try.prog = true := by kernel_rfl

set_option maxRecDepth 100000 in
theorem orderChain_law (q : List AV) (h : TyVs Try.prog 10 Try.f4.params.toList q) : ACalls Try.prog 4 q [] (.bool true) [] := by
  rw [Try.params4] at h
  obtain ⟨x0, _, rfl, t0, h⟩ := h.cons
  obtain ⟨x1, _, rfl, t1, h⟩ := h.cons
  obtain rfl := h.nil
  obtain ⟨a0, rfl, h0⟩ := ty_Vec t0
  obtain ⟨a1, rfl, h1⟩ := ty_LTxn t1
  try rw [shOf_slice Try.underlying23]
  try rw [shOf_slice Try.underlying24]
  exact orderChain_walk a0 a1 h0.1 h1.1 h1.2

set_option maxRecDepth 100000 in
theorem orderChain_lifted (os : Os) (started : os.Started) (H : Type) (enc : TypeId × Value → H) :
    ReturnsInHanded {} Try.checked os 4 .any (Rows.orderChainSpec.pre6 enc Try.prog Try.f4 Rows.orderChainRow.domain false) (Rows.orderChainSpec.post enc Try.prog Try.f4 false true false false) :=
  law_lifted (C := Try.checked) 10 started own laidOut rfl rfl (by kernel_rfl) Try.func4
    (ChangeSpec.witness6 (enc := enc) (C := Try.checked) false ⟨#[], #[.slice none 0 0, .slice none 0 0], []⟩ 8 (by kernel_rfl) (by kernel_rfl) (by kernel_rfl) (by kernel_rfl))
    4 (by kernel_rfl) Try.underlying4 (by kernel_rfl) (fun ds h => by match ds, h with | [d0, d1], _ => rfl) orderChain_law

/-- What is taken is a chain; taken from it again it is all of it; and of what was left nothing is ready: the statement OrderChain of the given program, for every input (24 transactions). -/
theorem orderChain_holds : Rows.OrderChainSaid :=
  OpenClaim.holds_of_wide 4 Try.f4 rfl rfl rfl rfl rfl rfl rfl ⟨rfl, rfl, rfl, rfl, rfl⟩ rfl rfl rfl rfl rfl (by kernel_rfl) Try.func4 (by kernel_rfl)
    (of_decide_eq_true (by kernel_rfl)) (by unfold Func.isWrapper; first | (rw [if_pos (by decide +kernel)]; kernel_rfl) | (rw [if_neg (by decide +kernel)]; exact ⟨rfl, rfl⟩))
    (fun os started H enc _ => orderChain_lifted os started H enc)

end Go.Proofs.Ytkehoabgejdpgaa
#print axioms Go.Proofs.Ytkehoabgejdpgaa.orderChain_holds
