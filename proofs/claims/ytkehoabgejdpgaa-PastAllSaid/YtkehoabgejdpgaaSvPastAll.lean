/- Of any past, whatever is kept, asked and pruned is the document's, or its error; it stays as it is: the statement PastAll of the given program, for every input (24 transactions). -/
import Derived.Test.YtkehoabgejdpgaaSvPastL
import Derived.Test.YtkehoabgejdpgaaSvOrdTy
import Derived.Test.YtkehoabgejdpgaaRows
namespace Go.Proofs.Ytkehoabgejdpgaa
open Go Go.Bv Go.RowKit

theorem own : ownKnob Try.prog.godebug = none := by kernel_rfl
theorem laidOut : laidOutB Try.prog = true := by kernel_rfl

set_option maxRecDepth 100000 in
theorem pastAll_law (q : List AV) (h : TyVs Try.prog 10 Try.f13.params.toList q) : ACalls Try.prog 13 q [] (.bool true) [] := by
  rw [Try.params13] at h
  obtain ⟨x0, _, rfl, t0, h⟩ := h.cons
  obtain ⟨x1, _, rfl, t1, h⟩ := h.cons
  obtain ⟨x2, _, rfl, t2, h⟩ := h.cons
  obtain rfl := h.nil
  obtain ⟨a0, rfl, h0⟩ := ty_Past t0
  obtain ⟨a1, rfl, h1⟩ := ty_Txn t1
  obtain ⟨a2, rfl, h2⟩ := ty_Vec t2
  try rw [shOf_struct Try.underlying64]
  try rw [shOf_struct Try.underlying27]
  try rw [shOf_slice Try.underlying23]
  exact pastAll_walk a0 a1 a2 h0 h1 h2.1

set_option maxRecDepth 100000 in
theorem pastAll_lifted (os : Os) (started : os.Started) (H : Type) (enc : TypeId × Value → H) :
    ReturnsInHanded {} Try.checked os 13 .any (Rows.pastAllSpec.pre6 enc Try.prog Try.f13 Rows.pastAllRow.domain false) (Rows.pastAllSpec.post enc Try.prog Try.f13 false true false false) :=
  law_lifted (C := Try.checked) 10 started own laidOut rfl rfl (by kernel_rfl) Try.func13
    (ChangeSpec.witness6 (enc := enc) (C := Try.checked) false ⟨#[], #[.agg #[.slice none 0 0, .slice none 0 0], .agg #[.int .i64 0, .int .i64 0, .slice none 0 0, .slice none 0 0], .slice none 0 0], []⟩ 8 (by kernel_rfl) (by kernel_rfl) (by kernel_rfl) (by kernel_rfl))
    4 (by kernel_rfl) Try.underlying4 (by kernel_rfl) (fun ds h => by match ds, h with | [d0, d1, d2], _ => rfl) pastAll_law

/-- Of any past, whatever is kept, asked and pruned is the document's, or its error; it stays as it is: the statement PastAll of the given program, for every input (24 transactions). -/
theorem pastAll_holds : Rows.PastAllSaid :=
  OpenClaim.holds_of_wide 13 Try.f13 rfl rfl rfl rfl rfl rfl rfl ⟨rfl, rfl, rfl, rfl, rfl⟩ rfl rfl rfl rfl rfl (by kernel_rfl) Try.func13 (by kernel_rfl)
    (of_decide_eq_true (by kernel_rfl)) (by unfold Func.isWrapper; first | (rw [if_pos (by decide +kernel)]; kernel_rfl) | (rw [if_neg (by decide +kernel)]; exact ⟨rfl, rfl⟩))
    (fun os started H enc _ => pastAll_lifted os started H enc)

end Go.Proofs.Ytkehoabgejdpgaa
#print axioms Go.Proofs.Ytkehoabgejdpgaa.pastAll_holds
