/- Where one byte of a record, or of its sum, was turned, just those ahead of it are scanned: the statement FrameTurned of the given program, for every input. -/
import Derived.Test.YtegjfgodmenagaaSvFrameN
import Derived.Test.YtegjfgodmenagaaSvMidTyN
import Derived.Test.YtegjfgodmenagaaRows
namespace Go.Proofs.Ytegjfgodmenagaa
open Go Go.Bv Go.RowKit

theorem own : ownKnob Try.prog.godebug = none := by kernel_rfl
theorem laidOut : laidOutB Try.prog = true := by kernel_rfl

set_option maxRecDepth 100000 in
theorem frameTurned_law (q : List AV) (h : TyVs Try.prog 6 Try.f9.params.toList q) : ACalls Try.prog 9 q [] (.bool true) [] := by
  rw [Try.params9] at h
  obtain ⟨x0, _, rfl, t0, h⟩ := h.cons
  obtain ⟨x1, _, rfl, t1, h⟩ := h.cons
  obtain ⟨x2, _, rfl, t2, h⟩ := h.cons
  obtain ⟨x3, _, rfl, t3, h⟩ := h.cons
  obtain rfl := h.nil
  obtain ⟨a0, rfl, h0⟩ := ty_LLuint8 t0
  obtain ⟨a1, rfl, h1⟩ := ty_i64 t1 Try.underlying3
  obtain ⟨a2, rfl, h2⟩ := ty_i64 t2 Try.underlying3
  obtain ⟨a3, rfl⟩ := ty_u8 t3 Try.underlying5
  try rw [shOf_slice Try.underlying52]
  try rw [shOf_int Try.underlying3]
  try rw [shOf_int Try.underlying5]
  exact frameTurned_walk a0 a1 a2 a3 (Nat.le_of_lt (reach_lt h0.1))

set_option maxRecDepth 100000 in
theorem frameTurned_lifted (os : Os) (started : os.Started) (H : Type) (enc : TypeId × Value → H) :
    ReturnsInHanded {} Try.checked os 9 .any (Rows.frameTurnedSpec.pre6 enc Try.prog Try.f9 Rows.frameTurnedRow.domain false) (Rows.frameTurnedSpec.post enc Try.prog Try.f9 false true false false) :=
  law_lifted (C := Try.checked) 6 started own laidOut rfl rfl (by kernel_rfl) Try.func9
    (ChangeSpec.witness6 (enc := enc) (C := Try.checked) false ⟨#[], #[.slice none 0 0, .int .i64 0, .int .i64 0, .int .u8 0], []⟩ 8 (by kernel_rfl) (by kernel_rfl) (by kernel_rfl) (by kernel_rfl))
    4 (by kernel_rfl) Try.underlying4 (by kernel_rfl) (fun ds h => by match ds, h with | [d0, d1, d2, d3], _ => rfl) frameTurned_law

/-- Where one byte of a record, or of its sum, was turned, just those ahead of it are scanned: the statement FrameTurned of the given program, for every input. -/
theorem frameTurned_holds : Rows.FrameTurnedSaid :=
  OpenClaim.holds_of_wide 9 Try.f9 rfl rfl rfl rfl rfl rfl rfl ⟨rfl, rfl, rfl, rfl, rfl⟩ rfl rfl rfl rfl rfl (by kernel_rfl) Try.func9 (by kernel_rfl)
    (of_decide_eq_true (by kernel_rfl)) (by unfold Func.isWrapper; first | (rw [if_pos (by decide +kernel)]; kernel_rfl) | (rw [if_neg (by decide +kernel)]; exact ⟨rfl, rfl⟩))
    (fun os started H enc _ => frameTurned_lifted os started H enc)

end Go.Proofs.Ytegjfgodmenagaa
#print axioms Go.Proofs.Ytegjfgodmenagaa.frameTurned_holds
