/- A sum goes on piece by piece, in any pieces: the statement CrcPieces of the given program, for every input. -/
import Derived.Test.YtldhecicfapkaaaBvCrcL
import Derived.Test.YtldhecicfapkaaaRows
namespace Go.Proofs.Ytldhecicfapkaaa
open Go Go.Bv Go.RowKit

theorem own : ownKnob Try.prog.godebug = none := by kernel_rfl
theorem laidOut : laidOutB Try.prog = true := by kernel_rfl

set_option maxRecDepth 100000 in
theorem crcPieces_law (q : List AV) (h : TyVs Try.prog 4 Try.f4.params.toList q) : ACalls Try.prog 4 q [] (.bool true) [] := by
  rw [Try.params4] at h
  obtain ⟨xs, _, rfl, h1, h⟩ := h.cons
  obtain ⟨ys, _, rfl, h2, h⟩ := h.cons
  obtain rfl := h.nil
  obtain ⟨l, rfl, hl⟩ := ty_bytes h1 Try.underlying22 Try.underlying5 (by kernel_rfl)
  obtain ⟨z, rfl, _⟩ := ty_i64 h2 Try.underlying3
  rw [shOf_slice Try.underlying22, shOf_int Try.underlying3]
  exact crcPieces_walk l hl z

set_option maxRecDepth 100000 in
theorem crcPieces_lifted (os : Os) (started : os.Started) (H : Type) (enc : TypeId × Value → H) :
    ReturnsInHanded {} Try.checked os 4 .any (Rows.crcPiecesSpec.pre6 enc Try.prog Try.f4 Rows.crcPiecesRow.domain false) (Rows.crcPiecesSpec.post enc Try.prog Try.f4 false true false false) :=
  law_lifted (C := Try.checked) 4 started own laidOut rfl rfl (by kernel_rfl) Try.func4
    (ChangeSpec.witness6 (enc := enc) (C := Try.checked) false ⟨#[], #[.slice none 0 0, .int .i64 0], []⟩ 8 (by kernel_rfl) (by kernel_rfl) (by kernel_rfl) (by kernel_rfl))
    4 (by kernel_rfl) Try.underlying4 (by kernel_rfl) (fun ds h => by match ds, h with | [d0, d1], _ => rfl) crcPieces_law

/-- A sum goes on piece by piece, in any pieces: the statement CrcPieces of the given program, for every input. -/
theorem crcPieces_holds : Rows.CrcPiecesSaid :=
  OpenClaim.holds_of_wide 4 Try.f4 rfl rfl rfl rfl rfl rfl rfl ⟨rfl, rfl, rfl, rfl, rfl⟩ rfl rfl rfl rfl rfl (by kernel_rfl) Try.func4 (by kernel_rfl)
    (of_decide_eq_true (by kernel_rfl)) (by unfold Func.isWrapper; first | (rw [if_pos (by decide +kernel)]; kernel_rfl) | (rw [if_neg (by decide +kernel)]; exact ⟨rfl, rfl⟩))
    (fun os started H enc _ => crcPieces_lifted os started H enc)

end Go.Proofs.Ytldhecicfapkaaa
#print axioms Go.Proofs.Ytldhecicfapkaaa.crcPieces_holds
