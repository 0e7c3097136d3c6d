/- A record that is appended to an opened journal, and made fast, is the last one that is found, whatever goes down then: the statement JournalMore of the given program, for every input. -/
import Derived.Test.YtegjfgodmenagaaSvJournalM
import Derived.Test.YtegjfgodmenagaaSvMidTy
import Derived.Test.YtegjfgodmenagaaRows
namespace Go.Proofs.Ytegjfgodmenagaa
open Go Go.Bv Go.RowKit

theorem own : ownKnob Try.prog.godebug = none := by kernel_rfl
theorem laidOut : laidOutB Try.prog = true := by kernel_rfl

set_option maxRecDepth 100000 in
theorem journalMore_law (q : List AV) (h : TyVs Try.prog 6 Try.f15.params.toList q) : ACalls Try.prog 15 q [] (.bool true) [] := by
  rw [Try.params15] at h
  obtain ⟨x0, _, rfl, t0, h⟩ := h.cons
  obtain ⟨x1, _, rfl, t1, h⟩ := h.cons
  obtain ⟨x2, _, rfl, t2, h⟩ := h.cons
  obtain rfl := h.nil
  obtain ⟨a0, rfl, h0⟩ := ty_Disk t0
  obtain ⟨a1, rfl, h1⟩ := ty_bytes t1 Try.underlying25 Try.underlying5 (by kernel_rfl)
  obtain ⟨a2, rfl, h2⟩ := ty_i64 t2 Try.underlying3
  try rw [shOf_struct Try.underlying65]
  try rw [shOf_slice Try.underlying25]
  try rw [shOf_int Try.underlying3]
  exact journalMore_walk a0.1 a0.2 a1 a2 h0.1 h0.2 h1

set_option maxRecDepth 100000 in
theorem journalMore_lifted (os : Os) (started : os.Started) (H : Type) (enc : TypeId × Value → H) :
    ReturnsInHanded {} Try.checked os 15 .any (Rows.journalMoreSpec.pre6 enc Try.prog Try.f15 Rows.journalMoreRow.domain false) (Rows.journalMoreSpec.post enc Try.prog Try.f15 false true false false) :=
  law_lifted (C := Try.checked) 6 started own laidOut rfl rfl (by kernel_rfl) Try.func15
    (ChangeSpec.witness6 (enc := enc) (C := Try.checked) false ⟨#[], #[.agg #[.slice none 0 0, .slice none 0 0], .slice none 0 0, .int .i64 0], []⟩ 8 (by kernel_rfl) (by kernel_rfl) (by kernel_rfl) (by kernel_rfl))
    4 (by kernel_rfl) Try.underlying4 (by kernel_rfl) (fun ds h => by match ds, h with | [d0, d1, d2], _ => rfl) journalMore_law

/-- A record that is appended to an opened journal, and made fast, is the last one that is found, whatever goes down then: the statement JournalMore of the given program, for every input. -/
theorem journalMore_holds : Rows.JournalMoreSaid :=
  OpenClaim.holds_of_wide 15 Try.f15 rfl rfl rfl rfl rfl rfl rfl ⟨rfl, rfl, rfl, rfl, rfl⟩ rfl rfl rfl rfl rfl (by kernel_rfl) Try.func15 (by kernel_rfl)
    (of_decide_eq_true (by kernel_rfl)) (by unfold Func.isWrapper; first | (rw [if_pos (by decide +kernel)]; kernel_rfl) | (rw [if_neg (by decide +kernel)]; exact ⟨rfl, rfl⟩))
    (fun os started H enc _ => journalMore_lifted os started H enc)

end Go.Proofs.Ytegjfgodmenagaa
#print axioms Go.Proofs.Ytegjfgodmenagaa.journalMore_holds
