/- Any bytes are scanned as the document says: the statement FrameScans of the given program, for every input. -/
import Derived.Test.YtegjfgodmenagaaSvFrameL
import Derived.Test.YtegjfgodmenagaaSvMidTyN
import Derived.Test.YtegjfgodmenagaaRows
namespace Go.Proofs.Ytegjfgodmenagaa
open Go Go.Bv Go.RowKit

theorem own : ownKnob Try.prog.godebug = none := by kernel_rfl
theorem laidOut : laidOutB Try.prog = true := by kernel_rfl

set_option maxRecDepth 100000 in
theorem frameScans_law (q : List AV) (h : TyVs Try.prog 6 Try.f7.params.toList q) : ACalls Try.prog 7 q [] (.bool true) [] := by
  rw [Try.params7] at h
  obtain ⟨x0, _, rfl, t0, h⟩ := h.cons
  obtain rfl := h.nil
  obtain ⟨a0, rfl, h0⟩ := ty_bytes t0 Try.underlying25 Try.underlying5 (by kernel_rfl)
  try rw [shOf_slice Try.underlying25]
  exact frameScans_walk a0 h0

set_option maxRecDepth 100000 in
theorem frameScans_lifted (os : Os) (started : os.Started) (H : Type) (enc : TypeId × Value → H) :
    ReturnsInHanded {} Try.checked os 7 .any (Rows.frameScansSpec.pre6 enc Try.prog Try.f7 Rows.frameScansRow.domain false) (Rows.frameScansSpec.post enc Try.prog Try.f7 false true false false) :=
  law_lifted (C := Try.checked) 6 started own laidOut rfl rfl (by kernel_rfl) Try.func7
    (ChangeSpec.witness6 (enc := enc) (C := Try.checked) false ⟨#[], #[.slice none 0 0], []⟩ 8 (by kernel_rfl) (by kernel_rfl) (by kernel_rfl) (by kernel_rfl))
    4 (by kernel_rfl) Try.underlying4 (by kernel_rfl) (fun ds h => by match ds, h with | [d0], _ => rfl) frameScans_law

/-- Any bytes are scanned as the document says: the statement FrameScans of the given program, for every input. -/
theorem frameScans_holds : Rows.FrameScansSaid :=
  OpenClaim.holds_of_wide 7 Try.f7 rfl rfl rfl rfl rfl rfl rfl ⟨rfl, rfl, rfl, rfl, rfl⟩ rfl rfl rfl rfl rfl (by kernel_rfl) Try.func7 (by kernel_rfl)
    (of_decide_eq_true (by kernel_rfl)) (by unfold Func.isWrapper; first | (rw [if_pos (by decide +kernel)]; kernel_rfl) | (rw [if_neg (by decide +kernel)]; exact ⟨rfl, rfl⟩))
    (fun os started H enc _ => frameScans_lifted os started H enc)

end Go.Proofs.Ytegjfgodmenagaa
#print axioms Go.Proofs.Ytegjfgodmenagaa.frameScans_holds
