/- A transaction is read as it was written, with what stands behind it, and what is read is written as it stood: the statement TxnBack of the given program, for every input (20 effects, 6000 bytes). -/
import Derived.Test.YthkdjecnecpckaaPart8
import Derived.Test.YthkdjecnecpckaaRows
namespace Go.Proofs.Ythkdjecnecpckaa
open Go Go.Bv Go.RowKit

theorem own : ownKnob Try.prog.godebug = none := by kernel_rfl
theorem laidOut : laidOutB Try.prog = true := by kernel_rfl

set_option maxRecDepth 100000 in
theorem txnBack_law (q : List AV) (h : TyVs Try.prog 6 Try.f3.params.toList q) : ACalls Try.prog 3 q [] (.bool true) [] := by
  rw [Try.params3] at h
  obtain ⟨x0, _, rfl, t0, h⟩ := h.cons
  obtain ⟨x1, _, rfl, t1, h⟩ := h.cons
  obtain ⟨x2, _, rfl, t2, h⟩ := h.cons
  obtain rfl := h.nil
  obtain ⟨a0, rfl, h0⟩ := ty_Txn t0
  obtain ⟨a1, rfl, h1⟩ := ty_bytes t1 Try.underlying27 Try.underlying5 (by kernel_rfl)
  obtain ⟨a2, rfl, h2⟩ := ty_bytes t2 Try.underlying27 Try.underlying5 (by kernel_rfl)
  try rw [shOf_struct Try.underlying26]
  try rw [shOf_slice Try.underlying27]
  exact txnBack_walk a0 a1 a2 h0 h1 h2

set_option maxRecDepth 100000 in
theorem txnBack_lifted (os : Os) (started : os.Started) (H : Type) (enc : TypeId × Value → H) :
    ReturnsInHanded {} Try.checked os 3 .any (Rows.txnBackSpec.pre6 enc Try.prog Try.f3 Rows.txnBackRow.domain false) (Rows.txnBackSpec.post enc Try.prog Try.f3 false true false false) :=
  law_lifted (C := Try.checked) 6 started own laidOut rfl rfl (by kernel_rfl) Try.func3
    (ChangeSpec.witness6 (enc := enc) (C := Try.checked) false ⟨#[], #[.agg #[.int .i64 0, .int .i64 0, .slice none 0 0, .slice none 0 0], .slice none 0 0, .slice none 0 0], []⟩ 8 (by kernel_rfl) (by kernel_rfl) (by kernel_rfl) (by kernel_rfl))
    4 (by kernel_rfl) Try.underlying4 (by kernel_rfl) (fun ds h => by match ds, h with | [d0, d1, d2], _ => rfl) txnBack_law

/-- A transaction is read as it was written, with what stands behind it, and what is read is written as it stood: the statement TxnBack of the given program, for every input (20 effects, 6000 bytes). -/
theorem txnBack_holds : Rows.TxnBackSaid :=
  OpenClaim.holds_of_wide 3 Try.f3 rfl rfl rfl rfl rfl rfl rfl ⟨rfl, rfl, rfl, rfl, rfl⟩ rfl rfl rfl rfl rfl (by kernel_rfl) Try.func3 (by kernel_rfl)
    (of_decide_eq_true (by kernel_rfl)) (by unfold Func.isWrapper; first | (rw [if_pos (by decide +kernel)]; kernel_rfl) | (rw [if_neg (by decide +kernel)]; exact ⟨rfl, rfl⟩))
    (fun os started H enc _ => txnBack_lifted os started H enc)

end Go.Proofs.Ythkdjecnecpckaa
#print axioms Go.Proofs.Ythkdjecnecpckaa.txnBack_holds
