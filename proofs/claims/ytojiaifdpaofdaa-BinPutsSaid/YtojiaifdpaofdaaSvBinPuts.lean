/- Any numbers and texts are put as the document says, behind what stands there, and that stays as it is: the statement BinPuts of the given program, for every input. -/
import Derived.Test.YtojiaifdpaofdaaSvBinM
import Derived.Test.YtojiaifdpaofdaaRows
namespace Go.Proofs.Ytojiaifdpaofdaa
open Go Go.Bv Go.RowKit

theorem own : ownKnob Try.prog.godebug = none := by kernel_rfl
theorem laidOut : laidOutB Try.prog = true := by kernel_rfl

set_option maxRecDepth 100000 in
theorem binPuts_law (q : List AV) (h : TyVs Try.prog 6 Try.f5.params.toList q) : ACalls Try.prog 5 q [] (.bool true) [] := by
  rw [Try.params5] at h
  obtain ⟨x0, _, rfl, t0, h⟩ := h.cons
  obtain ⟨x1, _, rfl, t1, h⟩ := h.cons
  obtain ⟨x2, _, rfl, t2, h⟩ := h.cons
  obtain ⟨x3, _, rfl, t3, h⟩ := h.cons
  obtain rfl := h.nil
  obtain ⟨a0, rfl, h0⟩ := ty_bytes t0 Try.underlying23 Try.underlying5 (by kernel_rfl)
  obtain ⟨a1, rfl, h1⟩ := ty_i64 t1 Try.underlying3
  obtain ⟨a2, rfl, h2⟩ := ty_i64 t2 Try.underlying2
  obtain ⟨a3, rfl, h3⟩ := ty_str t3 Try.underlying9
  try rw [shOf_slice Try.underlying23]
  try rw [shOf_int Try.underlying3]
  try rw [shOf_int Try.underlying2]
  try rw [shOf_str Try.underlying9]
  exact binPuts_walk a0 a1 a2 a3 h0

set_option maxRecDepth 100000 in
theorem binPuts_lifted (os : Os) (started : os.Started) (H : Type) (enc : TypeId × Value → H) :
    ReturnsInHanded {} Try.checked os 5 .any (Rows.binPutsSpec.pre6 enc Try.prog Try.f5 Rows.binPutsRow.domain false) (Rows.binPutsSpec.post enc Try.prog Try.f5 false true false false) :=
  law_lifted (C := Try.checked) 6 started own laidOut rfl rfl (by kernel_rfl) Try.func5
    (ChangeSpec.witness6 (enc := enc) (C := Try.checked) false ⟨#[], #[.slice none 0 0, .int .i64 0, .int .i64 0, .string ⟨#[]⟩], []⟩ 8 (by kernel_rfl) (by kernel_rfl) (by kernel_rfl) (by kernel_rfl))
    4 (by kernel_rfl) Try.underlying4 (by kernel_rfl) (fun ds h => by match ds, h with | [d0, d1, d2, d3], _ => rfl) binPuts_law

/-- Any numbers and texts are put as the document says, behind what stands there, and that stays as it is: the statement BinPuts of the given program, for every input. -/
theorem binPuts_holds : Rows.BinPutsSaid :=
  OpenClaim.holds_of_wide 5 Try.f5 rfl rfl rfl rfl rfl rfl rfl ⟨rfl, rfl, rfl, rfl, rfl⟩ rfl rfl rfl rfl rfl (by kernel_rfl) Try.func5 (by kernel_rfl)
    (of_decide_eq_true (by kernel_rfl)) (by unfold Func.isWrapper; first | (rw [if_pos (by decide +kernel)]; kernel_rfl) | (rw [if_neg (by decide +kernel)]; exact ⟨rfl, rfl⟩))
    (fun os started H enc _ => binPuts_lifted os started H enc)

end Go.Proofs.Ytojiaifdpaofdaa
#print axioms Go.Proofs.Ytojiaifdpaofdaa.binPuts_holds
