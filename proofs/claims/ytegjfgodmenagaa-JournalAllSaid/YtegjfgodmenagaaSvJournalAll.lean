/- A record is appended to any disk, and any disk is opened, as the document says: the statement JournalAll of the given program, for every input. -/
import Derived.Test.YtegjfgodmenagaaSvJournalA
import Derived.Test.YtegjfgodmenagaaSvMidTy
import Derived.Test.YtegjfgodmenagaaRows
namespace Go.Proofs.Ytegjfgodmenagaa
open Go Go.Bv Go.RowKit

theorem own : ownKnob Try.prog.godebug = none := by kernel_rfl
theorem laidOut : laidOutB Try.prog = true := by kernel_rfl

set_option maxRecDepth 100000 in
theorem journalAll_law (q : List AV) (h : TyVs Try.prog 6 Try.f12.params.toList q) : ACalls Try.prog 12 q [] (.bool true) [] := by
  rw [Try.params12] at h
  obtain ⟨x0, _, rfl, t0, h⟩ := h.cons
  obtain ⟨x1, _, rfl, t1, h⟩ := h.cons
  obtain rfl := h.nil
  obtain ⟨a0, rfl, h0⟩ := ty_Disk t0
  obtain ⟨a1, rfl, h1⟩ := ty_bytes t1 Try.underlying25 Try.underlying5 (by kernel_rfl)
  try rw [shOf_struct Try.underlying65]
  try rw [shOf_slice Try.underlying25]
  exact journalAll_walk a0.1 a0.2 a1 h0.1 h0.2 h1

set_option maxRecDepth 100000 in
theorem journalAll_lifted (os : Os) (started : os.Started) (H : Type) (enc : TypeId × Value → H) :
    ReturnsInHanded {} Try.checked os 12 .any (Rows.journalAllSpec.pre6 enc Try.prog Try.f12 Rows.journalAllRow.domain false) (Rows.journalAllSpec.post enc Try.prog Try.f12 false true false false) :=
  law_lifted (C := Try.checked) 6 started own laidOut rfl rfl (by kernel_rfl) Try.func12
    (ChangeSpec.witness6 (enc := enc) (C := Try.checked) false ⟨#[], #[.agg #[.slice none 0 0, .slice none 0 0], .slice none 0 0], []⟩ 8 (by kernel_rfl) (by kernel_rfl) (by kernel_rfl) (by kernel_rfl))
    4 (by kernel_rfl) Try.underlying4 (by kernel_rfl) (fun ds h => by match ds, h with | [d0, d1], _ => rfl) journalAll_law

/-- A record is appended to any disk, and any disk is opened, as the document says: the statement JournalAll of the given program, for every input. -/
theorem journalAll_holds : Rows.JournalAllSaid :=
  OpenClaim.holds_of_wide 12 Try.f12 rfl rfl rfl rfl rfl rfl rfl ⟨rfl, rfl, rfl, rfl, rfl⟩ rfl rfl rfl rfl rfl (by kernel_rfl) Try.func12 (by kernel_rfl)
    (of_decide_eq_true (by kernel_rfl)) (by unfold Func.isWrapper; first | (rw [if_pos (by decide +kernel)]; kernel_rfl) | (rw [if_neg (by decide +kernel)]; exact ⟨rfl, rfl⟩))
    (fun os started H enc _ => journalAll_lifted os started H enc)

end Go.Proofs.Ytegjfgodmenagaa
#print axioms Go.Proofs.Ytegjfgodmenagaa.journalAll_holds
