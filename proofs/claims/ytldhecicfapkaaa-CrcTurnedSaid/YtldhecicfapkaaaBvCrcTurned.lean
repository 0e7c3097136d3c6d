/- Bytes of which one was turned have another sum: the statement CrcTurned of the given program, for every input. -/
import Derived.Test.YtldhecicfapkaaaBvCrcL
import Derived.Test.YtldhecicfapkaaaRows
namespace Go.Proofs.Ytldhecicfapkaaa
open Go Go.Bv Go.RowKit

theorem own : ownKnob Try.prog.godebug = none := by kernel_rfl
theorem laidOut : laidOutB Try.prog = true := by kernel_rfl

set_option maxRecDepth 100000 in
theorem crcTurned_law (q : List AV) (h : TyVs Try.prog 4 Try.f5.params.toList q) : ACalls Try.prog 5 q [] (.bool true) [] := by
  rw [Try.params5] at h
  obtain ⟨xs, _, rfl, h1, h⟩ := h.cons
  obtain ⟨ys, _, rfl, h2, h⟩ := h.cons
  obtain ⟨zs, _, rfl, h3, h⟩ := h.cons
  obtain rfl := h.nil
  obtain ⟨l, rfl, hl⟩ := ty_bytes h1 Try.underlying22 Try.underlying5 (by kernel_rfl)
  obtain ⟨z, rfl, _⟩ := ty_i64 h2 Try.underlying3
  obtain ⟨y, rfl⟩ := ty_u8 h3 Try.underlying5
  rw [shOf_slice Try.underlying22, shOf_int Try.underlying3, shOf_int Try.underlying5]
  exact crcTurned_walk l hl z y

set_option maxRecDepth 100000 in
theorem crcTurned_lifted (os : Os) (started : os.Started) (H : Type) (enc : TypeId × Value → H) :
    ReturnsInHanded {} Try.checked os 5 .any (Rows.crcTurnedSpec.pre6 enc Try.prog Try.f5 Rows.crcTurnedRow.domain false) (Rows.crcTurnedSpec.post enc Try.prog Try.f5 false true false false) :=
  law_lifted (C := Try.checked) 4 started own laidOut rfl rfl (by kernel_rfl) Try.func5
    (ChangeSpec.witness6 (enc := enc) (C := Try.checked) false ⟨#[], #[.slice none 0 0, .int .i64 0, .int .u8 0], []⟩ 8 (by kernel_rfl) (by kernel_rfl) (by kernel_rfl) (by kernel_rfl))
    4 (by kernel_rfl) Try.underlying4 (by kernel_rfl) (fun ds h => by match ds, h with | [d0, d1, d2], _ => rfl) crcTurned_law

/-- Bytes of which one was turned have another sum: the statement CrcTurned of the given program, for every input. -/
theorem crcTurned_holds : Rows.CrcTurnedSaid :=
  OpenClaim.holds_of_wide 5 Try.f5 rfl rfl rfl rfl rfl rfl rfl ⟨rfl, rfl, rfl, rfl, rfl⟩ rfl rfl rfl rfl rfl (by kernel_rfl) Try.func5 (by kernel_rfl)
    (of_decide_eq_true (by kernel_rfl)) (by unfold Func.isWrapper; first | (rw [if_pos (by decide +kernel)]; kernel_rfl) | (rw [if_neg (by decide +kernel)]; exact ⟨rfl, rfl⟩))
    (fun os started H enc _ => crcTurned_lifted os started H enc)

end Go.Proofs.Ytldhecicfapkaaa
#print axioms Go.Proofs.Ytldhecicfapkaaa.crcTurned_holds
