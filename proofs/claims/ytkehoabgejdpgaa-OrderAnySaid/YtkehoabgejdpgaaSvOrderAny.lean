/- In whatever order transactions come, no two of one dot, the same ones are taken, and as much is heard: the statement OrderAny of the given program, for every input (24 transactions). -/
import Derived.Test.YtkehoabgejdpgaaSvOrdLaw2
import Derived.Test.YtkehoabgejdpgaaSvOrdTy
import Derived.Test.YtkehoabgejdpgaaRows
namespace Go.Proofs.Ytkehoabgejdpgaa
open Go Go.Bv Go.RowKit

theorem own : ownKnob Try.prog.godebug = none := by kernel_rfl
theorem laidOut : laidOutB Try.prog = true := by kernel_rfl

set_option maxRecDepth 100000 in
theorem orderAny_law (q : List AV) (h : TyVs Try.prog 10 Try.f5.params.toList q) : ACalls Try.prog 5 q [] (.bool true) [] := by
  rw [Try.params5] at h
  obtain ⟨x0, _, rfl, t0, h⟩ := h.cons
  obtain ⟨x1, _, rfl, t1, h⟩ := h.cons
  obtain ⟨x2, _, rfl, t2, h⟩ := h.cons
  obtain rfl := h.nil
  obtain ⟨a0, rfl, h0⟩ := ty_Vec t0
  obtain ⟨a1, rfl, h1⟩ := ty_LTxn t1
  obtain ⟨a2, rfl, h2⟩ := ty_i64 t2 Try.underlying3
  try rw [shOf_slice Try.underlying23]
  try rw [shOf_slice Try.underlying24]
  try rw [shOf_int Try.underlying3]
  exact orderAny_walk a0 a1 a2 h0.1 h1.1 h1.2

set_option maxRecDepth 100000 in
theorem orderAny_lifted (os : Os) (started : os.Started) (H : Type) (enc : TypeId × Value → H) :
    ReturnsInHanded {} Try.checked os 5 .any (Rows.orderAnySpec.pre6 enc Try.prog Try.f5 Rows.orderAnyRow.domain false) (Rows.orderAnySpec.post enc Try.prog Try.f5 false true false false) :=
  law_lifted (C := Try.checked) 10 started own laidOut rfl rfl (by kernel_rfl) Try.func5
    (ChangeSpec.witness6 (enc := enc) (C := Try.checked) false ⟨#[], #[.slice none 0 0, .slice none 0 0, .int .i64 0], []⟩ 8 (by kernel_rfl) (by kernel_rfl) (by kernel_rfl) (by kernel_rfl))
    4 (by kernel_rfl) Try.underlying4 (by kernel_rfl) (fun ds h => by match ds, h with | [d0, d1, d2], _ => rfl) orderAny_law

/-- In whatever order transactions come, no two of one dot, the same ones are taken, and as much is heard: the statement OrderAny of the given program, for every input (24 transactions). -/
theorem orderAny_holds : Rows.OrderAnySaid :=
  OpenClaim.holds_of_wide 5 Try.f5 rfl rfl rfl rfl rfl rfl rfl ⟨rfl, rfl, rfl, rfl, rfl⟩ rfl rfl rfl rfl rfl (by kernel_rfl) Try.func5 (by kernel_rfl)
    (of_decide_eq_true (by kernel_rfl)) (by unfold Func.isWrapper; first | (rw [if_pos (by decide +kernel)]; kernel_rfl) | (rw [if_neg (by decide +kernel)]; exact ⟨rfl, rfl⟩))
    (fun os started H enc _ => orderAny_lifted os started H enc)

end Go.Proofs.Ytkehoabgejdpgaa
#print axioms Go.Proofs.Ytkehoabgejdpgaa.orderAny_holds
