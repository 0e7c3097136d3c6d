/- What is doubled, and taken from the end, leaves the network as it was; what is sent, too: the statement NetDoubled of the given program, for every input. -/
import Derived.Test.YtegjfgodmenagaaSvNetL
import Derived.Test.YtegjfgodmenagaaSvMidTyN
import Derived.Test.YtegjfgodmenagaaRows
namespace Go.Proofs.Ytegjfgodmenagaa
open Go Go.Bv Go.RowKit

theorem own : ownKnob Try.prog.godebug = none := by kernel_rfl
theorem laidOut : laidOutB Try.prog = true := by kernel_rfl

set_option maxRecDepth 100000 in
theorem netDoubled_law (q : List AV) (h : TyVs Try.prog 6 Try.f5.params.toList q) : ACalls Try.prog 5 q [] (.bool true) [] := by
  rw [Try.params5] at h
  obtain ⟨x0, _, rfl, t0, h⟩ := h.cons
  obtain ⟨x1, _, rfl, t1, h⟩ := h.cons
  obtain ⟨x2, _, rfl, t2, h⟩ := h.cons
  obtain rfl := h.nil
  obtain ⟨a0, rfl, h0⟩ := ty_Net t0
  obtain ⟨a1, rfl, h1⟩ := ty_Packet t1
  obtain ⟨a2, rfl, h2⟩ := ty_i64 t2 Try.underlying3
  try rw [shOf_struct Try.underlying24]
  try rw [shOf_struct Try.underlying27]
  try rw [shOf_int Try.underlying3]
  exact netDoubled_walk a0 a1 a2 h0 h1

set_option maxRecDepth 100000 in
theorem netDoubled_lifted (os : Os) (started : os.Started) (H : Type) (enc : TypeId × Value → H) :
    ReturnsInHanded {} Try.checked os 5 .any (Rows.netDoubledSpec.pre6 enc Try.prog Try.f5 Rows.netDoubledRow.domain false) (Rows.netDoubledSpec.post enc Try.prog Try.f5 false true false false) :=
  law_lifted (C := Try.checked) 6 started own laidOut rfl rfl (by kernel_rfl) Try.func5
    (ChangeSpec.witness6 (enc := enc) (C := Try.checked) false ⟨#[], #[.agg #[.slice none 0 0], .agg #[.int .i64 0, .int .i64 0, .slice none 0 0], .int .i64 0], []⟩ 8 (by kernel_rfl) (by kernel_rfl) (by kernel_rfl) (by kernel_rfl))
    4 (by kernel_rfl) Try.underlying4 (by kernel_rfl) (fun ds h => by match ds, h with | [d0, d1, d2], _ => rfl) netDoubled_law

/-- What is doubled, and taken from the end, leaves the network as it was; what is sent, too: the statement NetDoubled of the given program, for every input. -/
theorem netDoubled_holds : Rows.NetDoubledSaid :=
  OpenClaim.holds_of_wide 5 Try.f5 rfl rfl rfl rfl rfl rfl rfl ⟨rfl, rfl, rfl, rfl, rfl⟩ rfl rfl rfl rfl rfl (by kernel_rfl) Try.func5 (by kernel_rfl)
    (of_decide_eq_true (by kernel_rfl)) (by unfold Func.isWrapper; first | (rw [if_pos (by decide +kernel)]; kernel_rfl) | (rw [if_neg (by decide +kernel)]; exact ⟨rfl, rfl⟩))
    (fun os started H enc _ => netDoubled_lifted os started H enc)

end Go.Proofs.Ytegjfgodmenagaa
#print axioms Go.Proofs.Ytegjfgodmenagaa.netDoubled_holds
