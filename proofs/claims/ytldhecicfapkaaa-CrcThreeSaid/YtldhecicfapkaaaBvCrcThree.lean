/- Of three texts of one length the sum of what comes of laying them over one another is that of laying their sums over one another: the statement CrcThree of the given program, for every input. -/
import Derived.Test.YtldhecicfapkaaaBvCrcL
import Derived.Test.YtldhecicfapkaaaRows
namespace Go.Proofs.Ytldhecicfapkaaa
open Go Go.Bv Go.RowKit

theorem own : ownKnob Try.prog.godebug = none := by kernel_rfl
theorem laidOut : laidOutB Try.prog = true := by kernel_rfl

set_option maxRecDepth 100000 in
theorem crcThree_law (q : List AV) (h : TyVs Try.prog 4 Try.f7.params.toList q) : ACalls Try.prog 7 q [] (.bool true) [] := by
  rw [Try.params7] at h
  obtain ⟨xs, _, rfl, h1, h⟩ := h.cons
  obtain ⟨ys, _, rfl, h2, h⟩ := h.cons
  obtain ⟨zs, _, rfl, h3, h⟩ := h.cons
  obtain rfl := h.nil
  obtain ⟨x, rfl, hx⟩ := ty_bytes h1 Try.underlying22 Try.underlying5 (by kernel_rfl)
  obtain ⟨y, rfl, hy⟩ := ty_bytes h2 Try.underlying22 Try.underlying5 (by kernel_rfl)
  obtain ⟨l, rfl, hl⟩ := ty_bytes h3 Try.underlying22 Try.underlying5 (by kernel_rfl)
  rw [shOf_slice Try.underlying22]
  exact crcThree_walk x y l hx hy hl

set_option maxRecDepth 100000 in
theorem crcThree_lifted (os : Os) (started : os.Started) (H : Type) (enc : TypeId × Value → H) :
    ReturnsInHanded {} Try.checked os 7 .any (Rows.crcThreeSpec.pre6 enc Try.prog Try.f7 Rows.crcThreeRow.domain false) (Rows.crcThreeSpec.post enc Try.prog Try.f7 false true false false) :=
  law_lifted (C := Try.checked) 4 started own laidOut rfl rfl (by kernel_rfl) Try.func7
    (ChangeSpec.witness6 (enc := enc) (C := Try.checked) false ⟨#[], #[.slice none 0 0, .slice none 0 0, .slice none 0 0], []⟩ 8 (by kernel_rfl) (by kernel_rfl) (by kernel_rfl) (by kernel_rfl))
    4 (by kernel_rfl) Try.underlying4 (by kernel_rfl) (fun ds h => by match ds, h with | [d0, d1, d2], _ => rfl) crcThree_law

/-- Of three texts of one length the sum of what comes of laying them over one another is that of laying their sums over one another: the statement CrcThree of the given program, for every input. -/
theorem crcThree_holds : Rows.CrcThreeSaid :=
  OpenClaim.holds_of_wide 7 Try.f7 rfl rfl rfl rfl rfl rfl rfl ⟨rfl, rfl, rfl, rfl, rfl⟩ rfl rfl rfl rfl rfl (by kernel_rfl) Try.func7 (by kernel_rfl)
    (of_decide_eq_true (by kernel_rfl)) (by unfold Func.isWrapper; first | (rw [if_pos (by decide +kernel)]; kernel_rfl) | (rw [if_neg (by decide +kernel)]; exact ⟨rfl, rfl⟩))
    (fun os started H enc _ => crcThree_lifted os started H enc)

end Go.Proofs.Ytldhecicfapkaaa
#print axioms Go.Proofs.Ytldhecicfapkaaa.crcThree_holds
