/- A transaction of which the bytes are cut anywhere is none: the statement TxnCut of the given program, for every input (20 effects). -/
import Derived.Test.YthkdjecnecpckaaPart8
import Derived.Test.YthkdjecnecpckaaRows
namespace Go.Proofs.Ythkdjecnecpckaa
open Go Go.Bv Go.RowKit

theorem own : ownKnob Try.prog.godebug = none := by kernel_rfl
theorem laidOut : laidOutB Try.prog = true := by kernel_rfl

set_option maxRecDepth 100000 in
theorem txnCut_law (q : List AV) (h : TyVs Try.prog 6 Try.f4.params.toList q) : ACalls Try.prog 4 q [] (.bool true) [] := by
  rw [Try.params4] at h
  obtain ⟨x0, _, rfl, t0, h⟩ := h.cons
  obtain ⟨x1, _, rfl, t1, h⟩ := h.cons
  obtain rfl := h.nil
  obtain ⟨a0, rfl, h0⟩ := ty_Txn t0
  obtain ⟨a1, rfl, h1⟩ := ty_i64 t1 Try.underlying3
  try rw [shOf_struct Try.underlying26]
  try rw [shOf_int Try.underlying3]
  exact txnCut_walk a0 a1 h0 h1

set_option maxRecDepth 100000 in
theorem txnCut_lifted (os : Os) (started : os.Started) (H : Type) (enc : TypeId × Value → H) :
    ReturnsInHanded {} Try.checked os 4 .any (Rows.txnCutSpec.pre6 enc Try.prog Try.f4 Rows.txnCutRow.domain false) (Rows.txnCutSpec.post enc Try.prog Try.f4 false true false false) :=
  law_lifted (C := Try.checked) 6 started own laidOut rfl rfl (by kernel_rfl) Try.func4
    (ChangeSpec.witness6 (enc := enc) (C := Try.checked) false ⟨#[], #[.agg #[.int .i64 0, .int .i64 0, .slice none 0 0, .slice none 0 0], .int .i64 0], []⟩ 8 (by kernel_rfl) (by kernel_rfl) (by kernel_rfl) (by kernel_rfl))
    4 (by kernel_rfl) Try.underlying4 (by kernel_rfl) (fun ds h => by match ds, h with | [d0, d1], _ => rfl) txnCut_law

/-- A transaction of which the bytes are cut anywhere is none: the statement TxnCut of the given program, for every input (20 effects). -/
theorem txnCut_holds : Rows.TxnCutSaid :=
  OpenClaim.holds_of_wide 4 Try.f4 rfl rfl rfl rfl rfl rfl rfl ⟨rfl, rfl, rfl, rfl, rfl⟩ rfl rfl rfl rfl rfl (by kernel_rfl) Try.func4 (by kernel_rfl)
    (of_decide_eq_true (by kernel_rfl)) (by unfold Func.isWrapper; first | (rw [if_pos (by decide +kernel)]; kernel_rfl) | (rw [if_neg (by decide +kernel)]; exact ⟨rfl, rfl⟩))
    (fun os started H enc _ => txnCut_lifted os started H enc)

end Go.Proofs.Ythkdjecnecpckaa
#print axioms Go.Proofs.Ythkdjecnecpckaa.txnCut_holds
