/- Any transaction is formed, filtered and written as the document says, and it stays as it is: the statement TxnAll of the given program, for every input (20 effects). -/
import Derived.Test.YthkdjecnecpckaaPart7
import Derived.Test.YthkdjecnecpckaaPart8
import Derived.Test.YthkdjecnecpckaaRows
namespace Go.Proofs.Ythkdjecnecpckaa
open Go Go.Bv Go.RowKit

theorem own : ownKnob Try.prog.godebug = none := by kernel_rfl
theorem laidOut : laidOutB Try.prog = true := by kernel_rfl

set_option maxRecDepth 100000 in
theorem txnAll_law (q : List AV) (h : TyVs Try.prog 6 Try.f6.params.toList q) : ACalls Try.prog 6 q [] (.bool true) [] := by
  rw [Try.params6] at h
  obtain ⟨x0, _, rfl, t0, h⟩ := h.cons
  obtain ⟨x1, _, rfl, t1, h⟩ := h.cons
  obtain ⟨x2, _, rfl, t2, h⟩ := h.cons
  obtain rfl := h.nil
  obtain ⟨a0, rfl, h0⟩ := ty_Txn t0
  obtain ⟨a1, rfl, h1⟩ := ty_Lstring t1
  obtain ⟨a2, rfl, h2⟩ := ty_bytes t2 Try.underlying27 Try.underlying5 (by kernel_rfl)
  try rw [shOf_struct Try.underlying26]
  try rw [shOf_slice Try.underlying41]
  try rw [shOf_slice Try.underlying27]
  exact txnAll_walk a0 a1 a2 h0 h1.1 h1.2 h2

set_option maxRecDepth 100000 in
theorem txnAll_lifted (os : Os) (started : os.Started) (H : Type) (enc : TypeId × Value → H) :
    ReturnsInHanded {} Try.checked os 6 .any (Rows.txnAllSpec.pre6 enc Try.prog Try.f6 Rows.txnAllRow.domain false) (Rows.txnAllSpec.post enc Try.prog Try.f6 false true false false) :=
  law_lifted (C := Try.checked) 6 started own laidOut rfl rfl (by kernel_rfl) Try.func6
    (ChangeSpec.witness6 (enc := enc) (C := Try.checked) false ⟨#[], #[.agg #[.int .i64 0, .int .i64 0, .slice none 0 0, .slice none 0 0], .slice none 0 0, .slice none 0 0], []⟩ 8 (by kernel_rfl) (by kernel_rfl) (by kernel_rfl) (by kernel_rfl))
    4 (by kernel_rfl) Try.underlying4 (by kernel_rfl) (fun ds h => by match ds, h with | [d0, d1, d2], _ => rfl) txnAll_law

/-- Any transaction is formed, filtered and written as the document says, and it stays as it is: the statement TxnAll of the given program, for every input (20 effects). -/
theorem txnAll_holds : Rows.TxnAllSaid :=
  OpenClaim.holds_of_wide 6 Try.f6 rfl rfl rfl rfl rfl rfl rfl ⟨rfl, rfl, rfl, rfl, rfl⟩ rfl rfl rfl rfl rfl (by kernel_rfl) Try.func6 (by kernel_rfl)
    (of_decide_eq_true (by kernel_rfl)) (by unfold Func.isWrapper; first | (rw [if_pos (by decide +kernel)]; kernel_rfl) | (rw [if_neg (by decide +kernel)]; exact ⟨rfl, rfl⟩))
    (fun os started H enc _ => txnAll_lifted os started H enc)

end Go.Proofs.Ythkdjecnecpckaa
#print axioms Go.Proofs.Ythkdjecnecpckaa.txnAll_holds
