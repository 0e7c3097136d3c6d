/- Any bytes have the document's sum: the statement CrcSums of the given program, for every input. -/
import Derived.Test.YtldhecicfapkaaaBvCrcL
import Derived.Test.YtldhecicfapkaaaRows
namespace Go.Proofs.Ytldhecicfapkaaa
open Go Go.Bv Go.RowKit

theorem own : ownKnob Try.prog.godebug = none := by kernel_rfl
theorem laidOut : laidOutB Try.prog = true := by kernel_rfl

theorem crcSums_law (q : List AV) (h : TyVs Try.prog 4 Try.f3.params.toList q) : ACalls Try.prog 3 q [] (.bool true) [] := by
  match q, h with
  | [a], ⟨⟨xs, h1, h2⟩, _⟩ =>
    obtain ⟨l, rfl, hl⟩ := ty_bytes h1 Try.underlying22 Try.underlying5 (by kernel_rfl)
    rw [shOf_slice Try.underlying22] at h2
    subst h2
    exact crcSums_walk l hl

set_option maxRecDepth 100000 in
theorem crcSums_lifted (os : Os) (started : os.Started) (H : Type) (enc : TypeId × Value → H) :
    ReturnsInHanded {} Try.checked os 3 .any (Rows.crcSumsSpec.pre6 enc Try.prog Try.f3 Rows.crcSumsRow.domain false) (Rows.crcSumsSpec.post enc Try.prog Try.f3 false true false false) :=
  law_lifted (C := Try.checked) 4 started own laidOut rfl rfl (by kernel_rfl) Try.func3
    (ChangeSpec.witness6 (enc := enc) (C := Try.checked) false ⟨#[], #[.slice none 0 0], []⟩ 8 (by kernel_rfl) (by kernel_rfl) (by kernel_rfl) (by kernel_rfl))
    4 (by kernel_rfl) Try.underlying4 (by kernel_rfl) (fun ds h => by match ds, h with | [d], _ => rfl) crcSums_law

/-- Any bytes have the document's sum. -/
theorem crcSums_holds : Rows.CrcSumsSaid :=
  OpenClaim.holds_of_wide 3 Try.f3 rfl rfl rfl rfl rfl rfl rfl ⟨rfl, rfl, rfl, rfl, rfl⟩ rfl rfl rfl rfl rfl (by kernel_rfl) Try.func3 (by kernel_rfl)
    (of_decide_eq_true (by kernel_rfl)) (by unfold Func.isWrapper; first | (rw [if_pos (by decide +kernel)]; kernel_rfl) | (rw [if_neg (by decide +kernel)]; exact ⟨rfl, rfl⟩))
    (fun os started H enc _ => crcSums_lifted os started H enc)

end Go.Proofs.Ytldhecicfapkaaa
#print axioms Go.Proofs.Ytldhecicfapkaaa.crcSums_holds
