/- Two sums that go on over the same bytes are the same just where they were: the statement CrcApart of the given program, for every input. -/
import Derived.Test.YtldhecicfapkaaaBvCrcL
import Derived.Test.YtldhecicfapkaaaRows
namespace Go.Proofs.Ytldhecicfapkaaa
open Go Go.Bv Go.RowKit

theorem own : ownKnob Try.prog.godebug = none := by kernel_rfl
theorem laidOut : laidOutB Try.prog = true := by kernel_rfl

set_option maxRecDepth 100000 in
theorem crcApart_law (q : List AV) (h : TyVs Try.prog 4 Try.f6.params.toList q) : ACalls Try.prog 6 q [] (.bool true) [] := by
  rw [Try.params6] at h
  obtain ⟨xs, _, rfl, h1, h⟩ := h.cons
  obtain ⟨ys, _, rfl, h2, h⟩ := h.cons
  obtain ⟨zs, _, rfl, h3, h⟩ := h.cons
  obtain rfl := h.nil
  obtain ⟨x, rfl⟩ := ty_u32 h1 Try.underlying24
  obtain ⟨y, rfl⟩ := ty_u32 h2 Try.underlying24
  obtain ⟨l, rfl, hl⟩ := ty_bytes h3 Try.underlying22 Try.underlying5 (by kernel_rfl)
  rw [shOf_slice Try.underlying22, shOf_int Try.underlying24]
  exact crcApart_walk x y l hl

set_option maxRecDepth 100000 in
theorem crcApart_lifted (os : Os) (started : os.Started) (H : Type) (enc : TypeId × Value → H) :
    ReturnsInHanded {} Try.checked os 6 .any (Rows.crcApartSpec.pre6 enc Try.prog Try.f6 Rows.crcApartRow.domain false) (Rows.crcApartSpec.post enc Try.prog Try.f6 false true false false) :=
  law_lifted (C := Try.checked) 4 started own laidOut rfl rfl (by kernel_rfl) Try.func6
    (ChangeSpec.witness6 (enc := enc) (C := Try.checked) false ⟨#[], #[.int .u32 0, .int .u32 0, .slice none 0 0], []⟩ 8 (by kernel_rfl) (by kernel_rfl) (by kernel_rfl) (by kernel_rfl))
    4 (by kernel_rfl) Try.underlying4 (by kernel_rfl) (fun ds h => by match ds, h with | [d0, d1, d2], _ => rfl) crcApart_law

/-- Two sums that go on over the same bytes are the same just where they were: the statement CrcApart of the given program, for every input. -/
theorem crcApart_holds : Rows.CrcApartSaid :=
  OpenClaim.holds_of_wide 6 Try.f6 rfl rfl rfl rfl rfl rfl rfl ⟨rfl, rfl, rfl, rfl, rfl⟩ rfl rfl rfl rfl rfl (by kernel_rfl) Try.func6 (by kernel_rfl)
    (of_decide_eq_true (by kernel_rfl)) (by unfold Func.isWrapper; first | (rw [if_pos (by decide +kernel)]; kernel_rfl) | (rw [if_neg (by decide +kernel)]; exact ⟨rfl, rfl⟩))
    (fun os started H enc _ => crcApart_lifted os started H enc)

end Go.Proofs.Ytldhecicfapkaaa
#print axioms Go.Proofs.Ytldhecicfapkaaa.crcApart_holds
