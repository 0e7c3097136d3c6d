/- Any transactions mean, are closed, have heard and are picked as the document says; they stay as they are. -/
import Derived.Test.YtjgmoglhbdgmpaaGreatPart11
import Derived.Test.YtjgmoglhbdgmpaaGreatRows
namespace Go.Proofs.YtjgmoglhbdgmpaaGreat
open Go Go.Bv Go.RowKit

theorem own : ownKnob Tryz.prog.godebug = none := by kernel_rfl
theorem laidOut : laidOutB Tryz.prog = true := by kernel_rfl

set_option maxRecDepth 100000 in
theorem specAll_law (q : List AV) (h : TyVs Tryz.prog 10 Tryz.f3.params.toList q) : ACalls Tryz.prog 3 q [] (.bool true) [] := by
  rw [Tryz.params3] at h
  obtain ⟨x0, _, rfl, t0, h⟩ := h.cons
  obtain ⟨x1, _, rfl, t1, h⟩ := h.cons
  obtain rfl := h.nil
  obtain ⟨a0, rfl, h0⟩ := ty_LTxn t0
  obtain ⟨a1, rfl, h1⟩ := ty_Vec t1
  try rw [shOf_slice Tryz.underlying22]
  try rw [shOf_slice Tryz.underlying24]
  exact specAll_walk a0 a1 h0.1 h0.2 h1.1

set_option maxRecDepth 100000 in
theorem specAll_lifted (os : Os) (started : os.Started) (H : Type) (enc : TypeId × Value → H) :
    ReturnsInHanded {} Tryz.checked os 3 .any (Rows.specAllSpec.pre6 enc Tryz.prog Tryz.f3 Rows.specAllRow.domain false) (Rows.specAllSpec.post enc Tryz.prog Tryz.f3 false true false false) :=
  law_lifted (C := Tryz.checked) 10 started own laidOut rfl rfl (by kernel_rfl) Tryz.func3
    (ChangeSpec.witness6 (enc := enc) (C := Tryz.checked) false ⟨#[], #[.slice none 0 0, .slice none 0 0], []⟩ 8 (by kernel_rfl) (by kernel_rfl) (by kernel_rfl) (by kernel_rfl))
    4 (by kernel_rfl) Tryz.underlying4 (by kernel_rfl) (fun ds h => by match ds, h with | [d0, d1], _ => rfl) specAll_law

set_option maxRecDepth 100000 in
/-- Any transactions mean, are closed, have heard and are picked as the document says; they stay as they are. -/
theorem specAll_holds : Rows.SpecAllSaid :=
  OpenClaim.holds_of_wide 3 Tryz.f3 rfl rfl rfl rfl rfl rfl rfl ⟨rfl, rfl, rfl, rfl, rfl⟩ rfl rfl rfl rfl rfl (by kernel_rfl) Tryz.func3 (by kernel_rfl)
    (of_decide_eq_true (by kernel_rfl)) (by unfold Func.isWrapper; first | (rw [if_pos (by decide +kernel)]; kernel_rfl) | (rw [if_neg (by decide +kernel)]; exact ⟨rfl, rfl⟩))
    (fun os started H enc _ => specAll_lifted os started H enc)

end Go.Proofs.YtjgmoglhbdgmpaaGreat
#print axioms Go.Proofs.YtjgmoglhbdgmpaaGreat.specAll_holds
