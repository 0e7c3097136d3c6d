/- What is on the way is just what was sent or doubled, and was not taken, in the order in which it came; never more than may be: the statement NetKeeps of the given program, for every input. -/
import Derived.Test.YtegjfgodmenagaaSvNetK
import Derived.Test.YtegjfgodmenagaaSvMidTyN
import Derived.Test.YtegjfgodmenagaaRows
namespace Go.Proofs.Ytegjfgodmenagaa
open Go Go.Bv Go.RowKit

theorem own : ownKnob Try.prog.godebug = none := by kernel_rfl
theorem laidOut : laidOutB Try.prog = true := by kernel_rfl

set_option maxRecDepth 100000 in
theorem netKeeps_law (q : List AV) (h : TyVs Try.prog 6 Try.f4.params.toList q) : ACalls Try.prog 4 q [] (.bool true) [] := by
  rw [Try.params4] at h
  obtain ⟨x0, _, rfl, t0, h⟩ := h.cons
  obtain rfl := h.nil
  obtain ⟨a0, rfl, h0⟩ := ty_LOp18 t0
  try rw [shOf_slice Try.underlying43]
  exact netKeeps_walk a0 (Nat.le_of_lt (reach_lt h0.1)) h0.2

set_option maxRecDepth 100000 in
theorem netKeeps_lifted (os : Os) (started : os.Started) (H : Type) (enc : TypeId × Value → H) :
    ReturnsInHanded {} Try.checked os 4 .any (Rows.netKeepsSpec.pre6 enc Try.prog Try.f4 Rows.netKeepsRow.domain false) (Rows.netKeepsSpec.post enc Try.prog Try.f4 false true false false) :=
  law_lifted (C := Try.checked) 6 started own laidOut rfl rfl (by kernel_rfl) Try.func4
    (ChangeSpec.witness6 (enc := enc) (C := Try.checked) false ⟨#[], #[.slice none 0 0], []⟩ 8 (by kernel_rfl) (by kernel_rfl) (by kernel_rfl) (by kernel_rfl))
    4 (by kernel_rfl) Try.underlying4 (by kernel_rfl) (fun ds h => by match ds, h with | [d0], _ => rfl) netKeeps_law

/-- What is on the way is just what was sent or doubled, and was not taken, in the order in which it came; never more than may be: the statement NetKeeps of the given program, for every input. -/
theorem netKeeps_holds : Rows.NetKeepsSaid :=
  OpenClaim.holds_of_wide 4 Try.f4 rfl rfl rfl rfl rfl rfl rfl ⟨rfl, rfl, rfl, rfl, rfl⟩ rfl rfl rfl rfl rfl (by kernel_rfl) Try.func4 (by kernel_rfl)
    (of_decide_eq_true (by kernel_rfl)) (by unfold Func.isWrapper; first | (rw [if_pos (by decide +kernel)]; kernel_rfl) | (rw [if_neg (by decide +kernel)]; exact ⟨rfl, rfl⟩))
    (fun os started H enc _ => netKeeps_lifted os started H enc)

end Go.Proofs.Ytegjfgodmenagaa
#print axioms Go.Proofs.Ytegjfgodmenagaa.netKeeps_holds
