/- Any record is laid as the document says, behind what stands there: the statement FrameLays of the given program, for every input. -/
import Derived.Test.YtegjfgodmenagaaSvFrameL
import Derived.Test.YtegjfgodmenagaaSvMidTyN
import Derived.Test.YtegjfgodmenagaaRows
namespace Go.Proofs.Ytegjfgodmenagaa
open Go Go.Bv Go.RowKit

theorem own : ownKnob Try.prog.godebug = none := by kernel_rfl
theorem laidOut : laidOutB Try.prog = true := by kernel_rfl

set_option maxRecDepth 100000 in
theorem frameLays_law (q : List AV) (h : TyVs Try.prog 6 Try.f6.params.toList q) : ACalls Try.prog 6 q [] (.bool true) [] := by
  rw [Try.params6] at h
  obtain ⟨x0, _, rfl, t0, h⟩ := h.cons
  obtain ⟨x1, _, rfl, t1, h⟩ := h.cons
  obtain rfl := h.nil
  obtain ⟨a0, rfl, h0⟩ := ty_bytes t0 Try.underlying25 Try.underlying5 (by kernel_rfl)
  obtain ⟨a1, rfl, h1⟩ := ty_bytes t1 Try.underlying25 Try.underlying5 (by kernel_rfl)
  try rw [shOf_slice Try.underlying25]
  exact frameLays_walk a0 a1 h0 h1

set_option maxRecDepth 100000 in
theorem frameLays_lifted (os : Os) (started : os.Started) (H : Type) (enc : TypeId × Value → H) :
    ReturnsInHanded {} Try.checked os 6 .any (Rows.frameLaysSpec.pre6 enc Try.prog Try.f6 Rows.frameLaysRow.domain false) (Rows.frameLaysSpec.post enc Try.prog Try.f6 false true false false) :=
  law_lifted (C := Try.checked) 6 started own laidOut rfl rfl (by kernel_rfl) Try.func6
    (ChangeSpec.witness6 (enc := enc) (C := Try.checked) false ⟨#[], #[.slice none 0 0, .slice none 0 0], []⟩ 8 (by kernel_rfl) (by kernel_rfl) (by kernel_rfl) (by kernel_rfl))
    4 (by kernel_rfl) Try.underlying4 (by kernel_rfl) (fun ds h => by match ds, h with | [d0, d1], _ => rfl) frameLays_law

/-- Any record is laid as the document says, behind what stands there: the statement FrameLays of the given program, for every input. -/
theorem frameLays_holds : Rows.FrameLaysSaid :=
  OpenClaim.holds_of_wide 6 Try.f6 rfl rfl rfl rfl rfl rfl rfl ⟨rfl, rfl, rfl, rfl, rfl⟩ rfl rfl rfl rfl rfl (by kernel_rfl) Try.func6 (by kernel_rfl)
    (of_decide_eq_true (by kernel_rfl)) (by unfold Func.isWrapper; first | (rw [if_pos (by decide +kernel)]; kernel_rfl) | (rw [if_neg (by decide +kernel)]; exact ⟨rfl, rfl⟩))
    (fun os started H enc _ => frameLays_lifted os started H enc)

end Go.Proofs.Ytegjfgodmenagaa
#print axioms Go.Proofs.Ytegjfgodmenagaa.frameLays_holds
