/- Any store takes any transactions, or refuses them, as the document says; it stays as it is. -/
import Derived.Test.YtjgmoglhbdgmpaaGreatPart13
import Derived.Test.YtjgmoglhbdgmpaaGreatRows
namespace Go.Proofs.YtjgmoglhbdgmpaaGreat
open Go Go.Bv Go.RowKit

theorem own : ownKnob Tryz.prog.godebug = none := by kernel_rfl
theorem laidOut : laidOutB Tryz.prog = true := by kernel_rfl

set_option maxRecDepth 100000 in
theorem storeAll_law (q : List AV) (h : TyVs Tryz.prog 10 Tryz.f4.params.toList q) : ACalls Tryz.prog 4 q [] (.bool true) [] := by
  rw [Tryz.params4] at h
  obtain ⟨x0, _, rfl, t0, h⟩ := h.cons
  obtain ⟨x1, _, rfl, t1, h⟩ := h.cons
  obtain ⟨x2, _, rfl, t2, h⟩ := h.cons
  obtain ⟨x3, _, rfl, t3, h⟩ := h.cons
  obtain rfl := h.nil
  obtain ⟨a0, rfl, h0⟩ := ty_Store t0
  obtain ⟨a1, rfl, h1⟩ := ty_LTxn t1
  obtain ⟨a2, rfl, h2⟩ := ty_Txn t2
  obtain ⟨a3, rfl, h3⟩ := ty_Lstring t3
  try rw [shOf_struct Tryz.underlying37]
  try rw [shOf_slice Tryz.underlying22]
  try rw [shOf_struct Tryz.underlying40]
  try rw [shOf_slice Tryz.underlying41]
  exact storeAllL_walk a0 a1 a2 a3 h0 h1.1 h1.2 h2 h3.1 h3.2

set_option maxRecDepth 100000 in
theorem storeAll_lifted (os : Os) (started : os.Started) (H : Type) (enc : TypeId × Value → H) :
    ReturnsInHanded {} Tryz.checked os 4 .any (Rows.storeAllSpec.pre6 enc Tryz.prog Tryz.f4 Rows.storeAllRow.domain false) (Rows.storeAllSpec.post enc Tryz.prog Tryz.f4 false true false false) :=
  law_lifted (C := Tryz.checked) 10 started own laidOut rfl rfl (by kernel_rfl) Tryz.func4
    (ChangeSpec.witness6 (enc := enc) (C := Tryz.checked) false ⟨#[], #[.agg #[.slice none 0 0, .slice none 0 0], .slice none 0 0, .agg #[.int .i64 0, .int .i64 0, .slice none 0 0, .slice none 0 0], .slice none 0 0], []⟩ 8 (by kernel_rfl) (by kernel_rfl) (by kernel_rfl) (by kernel_rfl))
    4 (by kernel_rfl) Tryz.underlying4 (by kernel_rfl) (fun ds h => by match ds, h with | [d0, d1, d2, d3], _ => rfl) storeAll_law

set_option maxRecDepth 100000 in
/-- Any store takes any transactions, or refuses them, as the document says; it stays as it is. -/
theorem storeAll_holds : Rows.StoreAllSaid :=
  OpenClaim.holds_of_wide 4 Tryz.f4 rfl rfl rfl rfl rfl rfl rfl ⟨rfl, rfl, rfl, rfl, rfl⟩ rfl rfl rfl rfl rfl (by kernel_rfl) Tryz.func4 (by kernel_rfl)
    (of_decide_eq_true (by kernel_rfl)) (by unfold Func.isWrapper; first | (rw [if_pos (by decide +kernel)]; kernel_rfl) | (rw [if_neg (by decide +kernel)]; exact ⟨rfl, rfl⟩))
    (fun os started H enc _ => storeAll_lifted os started H enc)

end Go.Proofs.YtjgmoglhbdgmpaaGreat
#print axioms Go.Proofs.YtjgmoglhbdgmpaaGreat.storeAll_holds
