/- A journal in which one byte of a record or its sum was turned is opened up to there, and goes on from there: the statement JournalSpoilt of the given program, for every input. -/
import Derived.Test.YtegjfgodmenagaaSvJournalS
import Derived.Test.YtegjfgodmenagaaSvMidTyN
import Derived.Test.YtegjfgodmenagaaRows
namespace Go.Proofs.Ytegjfgodmenagaa
open Go Go.Bv Go.RowKit

theorem own : ownKnob Try.prog.godebug = none := by kernel_rfl
theorem laidOut : laidOutB Try.prog = true := by kernel_rfl

set_option maxRecDepth 100000 in
theorem journalSpoilt_law (q : List AV) (h : TyVs Try.prog 6 Try.f14.params.toList q) : ACalls Try.prog 14 q [] (.bool true) [] := by
  rw [Try.params14] at h
  obtain ⟨x0, _, rfl, t0, h⟩ := h.cons
  obtain ⟨x1, _, rfl, t1, h⟩ := h.cons
  obtain ⟨x2, _, rfl, t2, h⟩ := h.cons
  obtain ⟨x3, _, rfl, t3, h⟩ := h.cons
  obtain ⟨x4, _, rfl, t4, h⟩ := h.cons
  obtain rfl := h.nil
  obtain ⟨a0, rfl, h0⟩ := ty_LLuint8 t0
  obtain ⟨a1, rfl, h1⟩ := ty_i64 t1 Try.underlying3
  obtain ⟨a2, rfl, h2⟩ := ty_i64 t2 Try.underlying3
  obtain ⟨a3, rfl⟩ := ty_u8 t3 Try.underlying5
  obtain ⟨a4, rfl, h4⟩ := ty_bytes t4 Try.underlying25 Try.underlying5 (by kernel_rfl)
  try rw [shOf_slice Try.underlying52]
  try rw [shOf_int Try.underlying3]
  try rw [shOf_int Try.underlying5]
  try rw [shOf_slice Try.underlying25]
  exact journalSpoilt_walk a0 a1 a2 a3 a4 (Nat.le_of_lt (reach_lt h0.1)) h4

set_option maxRecDepth 100000 in
theorem journalSpoilt_lifted (os : Os) (started : os.Started) (H : Type) (enc : TypeId × Value → H) :
    ReturnsInHanded {} Try.checked os 14 .any (Rows.journalSpoiltSpec.pre6 enc Try.prog Try.f14 Rows.journalSpoiltRow.domain false) (Rows.journalSpoiltSpec.post enc Try.prog Try.f14 false true false false) :=
  law_lifted (C := Try.checked) 6 started own laidOut rfl rfl (by kernel_rfl) Try.func14
    (ChangeSpec.witness6 (enc := enc) (C := Try.checked) false ⟨#[], #[.slice none 0 0, .int .i64 0, .int .i64 0, .int .u8 0, .slice none 0 0], []⟩ 8 (by kernel_rfl) (by kernel_rfl) (by kernel_rfl) (by kernel_rfl))
    4 (by kernel_rfl) Try.underlying4 (by kernel_rfl) (fun ds h => by match ds, h with | [d0, d1, d2, d3, d4], _ => rfl) journalSpoilt_law

/-- A journal in which one byte of a record or its sum was turned is opened up to there, and goes on from there: the statement JournalSpoilt of the given program, for every input. -/
theorem journalSpoilt_holds : Rows.JournalSpoiltSaid :=
  OpenClaim.holds_of_wide 14 Try.f14 rfl rfl rfl rfl rfl rfl rfl ⟨rfl, rfl, rfl, rfl, rfl⟩ rfl rfl rfl rfl rfl (by kernel_rfl) Try.func14 (by kernel_rfl)
    (of_decide_eq_true (by kernel_rfl)) (by unfold Func.isWrapper; first | (rw [if_pos (by decide +kernel)]; kernel_rfl) | (rw [if_neg (by decide +kernel)]; exact ⟨rfl, rfl⟩))
    (fun os started H enc _ => journalSpoilt_lifted os started H enc)

end Go.Proofs.Ytegjfgodmenagaa
#print axioms Go.Proofs.Ytegjfgodmenagaa.journalSpoilt_holds
