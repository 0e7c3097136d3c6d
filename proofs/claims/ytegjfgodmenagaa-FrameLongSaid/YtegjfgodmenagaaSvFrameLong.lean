/- A record of more bytes than there may be is refused; one of just as many is not: the statement FrameLong of the given program, for every input. -/
import Derived.Test.YtegjfgodmenagaaSvFrameL
import Derived.Test.YtegjfgodmenagaaSvMidTyN
import Derived.Test.YtegjfgodmenagaaRows
namespace Go.Proofs.Ytegjfgodmenagaa
open Go Go.Bv Go.RowKit

theorem own : ownKnob Try.prog.godebug = none := by kernel_rfl
theorem laidOut : laidOutB Try.prog = true := by kernel_rfl

set_option maxRecDepth 100000 in
theorem frameLong_law (q : List AV) (h : TyVs Try.prog 6 Try.f10.params.toList q) : ACalls Try.prog 10 q [] (.bool true) [] := by
  rw [Try.params10] at h
  obtain ⟨x0, _, rfl, t0, h⟩ := h.cons
  obtain rfl := h.nil
  obtain ⟨a0, rfl⟩ := ty_bool t0 Try.underlying4
  try rw [shOf_bool Try.underlying4]
  exact frameLong_walk a0

set_option maxRecDepth 100000 in
theorem frameLong_lifted (os : Os) (started : os.Started) (H : Type) (enc : TypeId × Value → H) :
    ReturnsInHanded {} Try.checked os 10 .any (Rows.frameLongSpec.pre6 enc Try.prog Try.f10 Rows.frameLongRow.domain false) (Rows.frameLongSpec.post enc Try.prog Try.f10 false true false false) :=
  law_lifted (C := Try.checked) 6 started own laidOut rfl rfl (by kernel_rfl) Try.func10
    (ChangeSpec.witness6 (enc := enc) (C := Try.checked) false ⟨#[], #[.bool false], []⟩ 8 (by kernel_rfl) (by kernel_rfl) (by kernel_rfl) (by kernel_rfl))
    4 (by kernel_rfl) Try.underlying4 (by kernel_rfl) (fun ds h => by match ds, h with | [d0], _ => rfl) frameLong_law

/-- A record of more bytes than there may be is refused; one of just as many is not: the statement FrameLong of the given program, for every input. -/
theorem frameLong_holds : Rows.FrameLongSaid :=
  OpenClaim.holds_of_wide 10 Try.f10 rfl rfl rfl rfl rfl rfl rfl ⟨rfl, rfl, rfl, rfl, rfl⟩ rfl rfl rfl rfl rfl (by kernel_rfl) Try.func10 (by kernel_rfl)
    (of_decide_eq_true (by kernel_rfl)) (by unfold Func.isWrapper; first | (rw [if_pos (by decide +kernel)]; kernel_rfl) | (rw [if_neg (by decide +kernel)]; exact ⟨rfl, rfl⟩))
    (fun os started H enc _ => frameLong_lifted os started H enc)

end Go.Proofs.Ytegjfgodmenagaa
#print axioms Go.Proofs.Ytegjfgodmenagaa.frameLong_holds
