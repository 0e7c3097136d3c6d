/- Of any disk, whatever is done, the answer is the document's, and the disk that was handed in stays: the statement DiskAll of the given program, for every input. -/
import Derived.Test.YtojiaifdpaofdaaSvDisk6
import Derived.Test.YtojiaifdpaofdaaSvLowTy
import Derived.Test.YtojiaifdpaofdaaRows
namespace Go.Proofs.Ytojiaifdpaofdaa
open Go Go.Bv Go.RowKit

theorem own : ownKnob Try.prog.godebug = none := by kernel_rfl
theorem laidOut : laidOutB Try.prog = true := by kernel_rfl

set_option maxRecDepth 100000 in
theorem diskAll_law (q : List AV) (h : TyVs Try.prog 6 Try.f10.params.toList q) : ACalls Try.prog 10 q [] (.bool true) [] := by
  rw [Try.params10] at h
  obtain ⟨x0, _, rfl, t0, h⟩ := h.cons
  obtain ⟨x1, _, rfl, t1, h⟩ := h.cons
  obtain ⟨x2, _, rfl, t2, h⟩ := h.cons
  obtain ⟨x3, _, rfl, t3, h⟩ := h.cons
  obtain rfl := h.nil
  obtain ⟨a0, rfl, h0⟩ := ty_Disk t0
  obtain ⟨a1, rfl, h1⟩ := ty_bytes t1 Try.underlying23 Try.underlying5 (by kernel_rfl)
  obtain ⟨a2, rfl, h2⟩ := ty_i64 t2 Try.underlying3
  obtain ⟨a3, rfl, h3⟩ := ty_i64 t3 Try.underlying3
  try rw [shOf_struct Try.underlying46]
  try rw [shOf_slice Try.underlying23]
  try rw [shOf_int Try.underlying3]
  exact diskAllLaw_walk a0.1 a0.2 a1 a2 a3 h0.1 h0.2 h1

set_option maxRecDepth 100000 in
theorem diskAll_lifted (os : Os) (started : os.Started) (H : Type) (enc : TypeId × Value → H) :
    ReturnsInHanded {} Try.checked os 10 .any (Rows.diskAllSpec.pre6 enc Try.prog Try.f10 Rows.diskAllRow.domain false) (Rows.diskAllSpec.post enc Try.prog Try.f10 false true false false) :=
  law_lifted (C := Try.checked) 6 started own laidOut rfl rfl (by kernel_rfl) Try.func10
    (ChangeSpec.witness6 (enc := enc) (C := Try.checked) false ⟨#[], #[.agg #[.slice none 0 0, .slice none 0 0], .slice none 0 0, .int .i64 0, .int .i64 0], []⟩ 8 (by kernel_rfl) (by kernel_rfl) (by kernel_rfl) (by kernel_rfl))
    4 (by kernel_rfl) Try.underlying4 (by kernel_rfl) (fun ds h => by match ds, h with | [d0, d1, d2, d3], _ => rfl) diskAll_law

/-- Of any disk, whatever is done, the answer is the document's, and the disk that was handed in stays: the statement DiskAll of the given program, for every input. -/
theorem diskAll_holds : Rows.DiskAllSaid :=
  OpenClaim.holds_of_wide 10 Try.f10 rfl rfl rfl rfl rfl rfl rfl ⟨rfl, rfl, rfl, rfl, rfl⟩ rfl rfl rfl rfl rfl (by kernel_rfl) Try.func10 (by kernel_rfl)
    (of_decide_eq_true (by kernel_rfl)) (by unfold Func.isWrapper; first | (rw [if_pos (by decide +kernel)]; kernel_rfl) | (rw [if_neg (by decide +kernel)]; exact ⟨rfl, rfl⟩))
    (fun os started H enc _ => diskAll_lifted os started H enc)

end Go.Proofs.Ytojiaifdpaofdaa
#print axioms Go.Proofs.Ytojiaifdpaofdaa.diskAll_holds
