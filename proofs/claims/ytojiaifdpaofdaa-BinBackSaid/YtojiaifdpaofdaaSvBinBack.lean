/- What was put is read, with what stands behind it: the statement BinBack of the given program, for every input. -/
import Derived.Test.YtojiaifdpaofdaaSvBinK
import Derived.Test.YtojiaifdpaofdaaRows
namespace Go.Proofs.Ytojiaifdpaofdaa
open Go Go.Bv Go.RowKit

theorem own : ownKnob Try.prog.godebug = none := by kernel_rfl
theorem laidOut : laidOutB Try.prog = true := by kernel_rfl

set_option maxRecDepth 100000 in
theorem binBack_law (q : List AV) (h : TyVs Try.prog 6 Try.f6.params.toList q) : ACalls Try.prog 6 q [] (.bool true) [] := by
  rw [Try.params6] at h
  obtain ⟨x0, _, rfl, t0, h⟩ := h.cons
  obtain ⟨x1, _, rfl, t1, h⟩ := h.cons
  obtain ⟨x2, _, rfl, t2, h⟩ := h.cons
  obtain ⟨x3, _, rfl, t3, h⟩ := h.cons
  obtain rfl := h.nil
  obtain ⟨a0, rfl, h0⟩ := ty_i64 t0 Try.underlying3
  obtain ⟨a1, rfl, h1⟩ := ty_i64 t1 Try.underlying2
  obtain ⟨a2, rfl, h2⟩ := ty_str t2 Try.underlying9
  obtain ⟨a3, rfl, h3⟩ := ty_bytes t3 Try.underlying23 Try.underlying5 (by kernel_rfl)
  try rw [shOf_int Try.underlying3]
  try rw [shOf_int Try.underlying2]
  try rw [shOf_str Try.underlying9]
  try rw [shOf_slice Try.underlying23]
  exact binBack_walk a0 a1 a2 a3 h3 h1

set_option maxRecDepth 100000 in
theorem binBack_lifted (os : Os) (started : os.Started) (H : Type) (enc : TypeId × Value → H) :
    ReturnsInHanded {} Try.checked os 6 .any (Rows.binBackSpec.pre6 enc Try.prog Try.f6 Rows.binBackRow.domain false) (Rows.binBackSpec.post enc Try.prog Try.f6 false true false false) :=
  law_lifted (C := Try.checked) 6 started own laidOut rfl rfl (by kernel_rfl) Try.func6
    (ChangeSpec.witness6 (enc := enc) (C := Try.checked) false ⟨#[], #[.int .i64 0, .int .i64 0, .string ⟨#[]⟩, .slice none 0 0], []⟩ 8 (by kernel_rfl) (by kernel_rfl) (by kernel_rfl) (by kernel_rfl))
    4 (by kernel_rfl) Try.underlying4 (by kernel_rfl) (fun ds h => by match ds, h with | [d0, d1, d2, d3], _ => rfl) binBack_law

/-- What was put is read, with what stands behind it: the statement BinBack of the given program, for every input. -/
theorem binBack_holds : Rows.BinBackSaid :=
  OpenClaim.holds_of_wide 6 Try.f6 rfl rfl rfl rfl rfl rfl rfl ⟨rfl, rfl, rfl, rfl, rfl⟩ rfl rfl rfl rfl rfl (by kernel_rfl) Try.func6 (by kernel_rfl)
    (of_decide_eq_true (by kernel_rfl)) (by unfold Func.isWrapper; first | (rw [if_pos (by decide +kernel)]; kernel_rfl) | (rw [if_neg (by decide +kernel)]; exact ⟨rfl, rfl⟩))
    (fun os started H enc _ => binBack_lifted os started H enc)

end Go.Proofs.Ytojiaifdpaofdaa
#print axioms Go.Proofs.Ytojiaifdpaofdaa.binBack_holds
