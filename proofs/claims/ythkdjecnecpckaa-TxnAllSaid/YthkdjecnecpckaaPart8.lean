/- Part of the lift: an abstract walk of the program's code, proved sound, and what it shows of this program. -/
import Derived.Test.YthkdjecnecpckaaPart5
namespace Go.Bv
open Go Go.Proofs

theorem ty_Vec {n : Nat} {xs : List AV} (h : TyC Try.prog n 23 xs) : ∃ a : List (Int), xs = [.list (.leaf) (a.map i64)] ∧ (a.length ≤ reachBytes ∧ ∀ y ∈ a, okInt y) := by
  obtain ⟨l, rfl, hl, hx⟩ := ty_slice h Try.underlying23
  have hs : shOf Try.prog 3 = .leaf := by exact shOf_int Try.underlying3
  have hb : 1 ≤ Try.prog.bytesOf 3 := Nat.le_of_ble_eq_true (by kernel_rfl)
  rw [hs] at hx ⊢
  have : ∀ x ∈ l, ∃ a : Int, x = i64 a ∧ okInt a := by
    intro x hxl
    obtain ⟨ys, hy, rfl⟩ := hx x hxl
    obtain ⟨a, e1, g1⟩ := ty_i64 hy Try.underlying3
    exact ⟨a, by rw [e1]; rfl, g1⟩
  obtain ⟨a, rfl, ha⟩ := list_of' this
  exact ⟨a, rfl, Nat.le_trans (by simpa using Nat.le_mul_of_pos_right (a.map i64).length hb) hl, ha⟩

theorem ty_Dot {n : Nat} {xs : List AV} (h : TyC Try.prog n 47 xs) : ∃ a : Dot, xs = dotC a ∧ okDot a := by
  obtain ⟨hl, hf⟩ := ty_struct h Try.underlying47
  have c3 : Try.prog.cellsOf 3 = 1 := by kernel_rfl
  have c47 : Try.prog.cellsOf 47 = 3 := by kernel_rfl
  rw [c47] at hl
  have h0 := hf _ (List.mem_cons_self ..)
  dsimp only at h0
  rw [c3] at h0
  obtain ⟨a0, e0, g0⟩ := ty_i64 h0 Try.underlying3
  have e0 := drop_more e0 rfl
  have h1 := hf _ (List.mem_cons_of_mem _ (List.mem_cons_self ..))
  dsimp only at h1
  rw [c3] at h1
  obtain ⟨a1, e1, g1⟩ := ty_i64 h1 Try.underlying3
  have e1 := drop_more e1 rfl
  have h2 := hf _ (List.mem_cons_of_mem _ (List.mem_cons_of_mem _ (List.mem_cons_self ..)))
  dsimp only at h2
  rw [c3] at h2
  obtain ⟨a2, e2, g2⟩ := ty_i64 h2 Try.underlying3
  have e2 := drop_more e2 rfl
  rw [drop_all' hl] at e2
  rw [e2] at e1
  rw [e1] at e0
  exact ⟨⟨a0, a1, a2⟩, by rw [List.drop_zero] at e0; rw [e0]; rfl, g0, g1, g2⟩

theorem ty_LDot {n : Nat} {xs : List AV} (h : TyC Try.prog n 64 xs) : ∃ a : List (Dot), xs = [.list (.agg 3) (a.map dotA)] ∧ (a.length ≤ reachBytes ∧ ∀ y ∈ a, okDot y) := by
  obtain ⟨l, rfl, hl, hx⟩ := ty_slice h Try.underlying64
  have hs : shOf Try.prog 47 = .agg 3 := by rw [shOf_struct Try.underlying47, show Try.prog.cellsOf 47 = 3 by kernel_rfl]
  have hb : 1 ≤ Try.prog.bytesOf 47 := Nat.le_of_ble_eq_true (by kernel_rfl)
  rw [hs] at hx ⊢
  have : ∀ x ∈ l, ∃ a : Dot, x = dotA a ∧ okDot a := by
    intro x hxl
    obtain ⟨ys, hy, rfl⟩ := hx x hxl
    obtain ⟨a, e1, g1⟩ := ty_Dot hy
    exact ⟨a, by rw [e1]; rfl, g1⟩
  obtain ⟨a, rfl, ha⟩ := list_of' this
  exact ⟨a, rfl, Nat.le_trans (by simpa using Nat.le_mul_of_pos_right (a.map dotA).length hb) hl, ha⟩

theorem ty_Eff {n : Nat} {xs : List AV} (h : TyC Try.prog n 66 xs) : ∃ a : Eff, xs = effC a ∧ okEff a := by
  obtain ⟨hl, hf⟩ := ty_struct h Try.underlying66
  have c3 : Try.prog.cellsOf 3 = 1 := by kernel_rfl
  have c9 : Try.prog.cellsOf 9 = 1 := by kernel_rfl
  have c2 : Try.prog.cellsOf 2 = 1 := by kernel_rfl
  have c64 : Try.prog.cellsOf 64 = 1 := by kernel_rfl
  have c66 : Try.prog.cellsOf 66 = 7 := by kernel_rfl
  rw [c66] at hl
  have h0 := hf _ (List.mem_cons_self ..)
  dsimp only at h0
  rw [c3] at h0
  obtain ⟨a0, e0, g0⟩ := ty_i64 h0 Try.underlying3
  have e0 := drop_more e0 rfl
  have h1 := hf _ (List.mem_cons_of_mem _ (List.mem_cons_self ..))
  dsimp only at h1
  rw [c9] at h1
  obtain ⟨a1, e1, g1⟩ := ty_str h1 Try.underlying9
  have e1 := drop_more e1 rfl
  have h2 := hf _ (List.mem_cons_of_mem _ (List.mem_cons_of_mem _ (List.mem_cons_self ..)))
  dsimp only at h2
  rw [c9] at h2
  obtain ⟨a2, e2, g2⟩ := ty_str h2 Try.underlying9
  have e2 := drop_more e2 rfl
  have h3 := hf _ (List.mem_cons_of_mem _ (List.mem_cons_of_mem _ (List.mem_cons_of_mem _ (List.mem_cons_self ..))))
  dsimp only at h3
  rw [c3] at h3
  obtain ⟨a3, e3, g3⟩ := ty_i64 h3 Try.underlying3
  have e3 := drop_more e3 rfl
  have h4 := hf _ (List.mem_cons_of_mem _ (List.mem_cons_of_mem _ (List.mem_cons_of_mem _ (List.mem_cons_of_mem _ (List.mem_cons_self ..)))))
  dsimp only at h4
  rw [c9] at h4
  obtain ⟨a4, e4, g4⟩ := ty_str h4 Try.underlying9
  have e4 := drop_more e4 rfl
  have h5 := hf _ (List.mem_cons_of_mem _ (List.mem_cons_of_mem _ (List.mem_cons_of_mem _ (List.mem_cons_of_mem _ (List.mem_cons_of_mem _ (List.mem_cons_self ..))))))
  dsimp only at h5
  rw [c2] at h5
  obtain ⟨a5, e5, g5⟩ := ty_i64 h5 Try.underlying2
  have e5 := drop_more e5 rfl
  have h6 := hf _ (List.mem_cons_of_mem _ (List.mem_cons_of_mem _ (List.mem_cons_of_mem _ (List.mem_cons_of_mem _ (List.mem_cons_of_mem _ (List.mem_cons_of_mem _ (List.mem_cons_self ..)))))))
  dsimp only at h6
  rw [c64] at h6
  obtain ⟨a6, e6, g6⟩ := ty_LDot h6
  have e6 := drop_more e6 rfl
  rw [drop_all' hl] at e6
  rw [e6] at e5
  rw [e5] at e4
  rw [e4] at e3
  rw [e3] at e2
  rw [e2] at e1
  rw [e1] at e0
  exact ⟨⟨a0, a1, a2, a3, a4, a5, a6⟩, by rw [List.drop_zero] at e0; rw [e0]; rfl, g0, g1, g2, g3, g4, g5, g6⟩

theorem ty_LEff {n : Nat} {xs : List AV} (h : TyC Try.prog n 24 xs) : ∃ a : List (Eff), xs = [.list (.agg 7) (a.map effA)] ∧ (a.length ≤ reachBytes ∧ ∀ y ∈ a, okEff y) := by
  obtain ⟨l, rfl, hl, hx⟩ := ty_slice h Try.underlying24
  have hs : shOf Try.prog 66 = .agg 7 := by rw [shOf_struct Try.underlying66, show Try.prog.cellsOf 66 = 7 by kernel_rfl]
  have hb : 1 ≤ Try.prog.bytesOf 66 := Nat.le_of_ble_eq_true (by kernel_rfl)
  rw [hs] at hx ⊢
  have : ∀ x ∈ l, ∃ a : Eff, x = effA a ∧ okEff a := by
    intro x hxl
    obtain ⟨ys, hy, rfl⟩ := hx x hxl
    obtain ⟨a, e1, g1⟩ := ty_Eff hy
    exact ⟨a, by rw [e1]; rfl, g1⟩
  obtain ⟨a, rfl, ha⟩ := list_of' this
  exact ⟨a, rfl, Nat.le_trans (by simpa using Nat.le_mul_of_pos_right (a.map effA).length hb) hl, ha⟩

theorem ty_Txn {n : Nat} {xs : List AV} (h : TyC Try.prog n 26 xs) : ∃ a : Txn, xs = txnC a ∧ okTxn a := by
  obtain ⟨hl, hf⟩ := ty_struct h Try.underlying26
  have c3 : Try.prog.cellsOf 3 = 1 := by kernel_rfl
  have c23 : Try.prog.cellsOf 23 = 1 := by kernel_rfl
  have c24 : Try.prog.cellsOf 24 = 1 := by kernel_rfl
  have c26 : Try.prog.cellsOf 26 = 4 := by kernel_rfl
  rw [c26] at hl
  have h0 := hf _ (List.mem_cons_self ..)
  dsimp only at h0
  rw [c3] at h0
  obtain ⟨a0, e0, g0⟩ := ty_i64 h0 Try.underlying3
  have e0 := drop_more e0 rfl
  have h1 := hf _ (List.mem_cons_of_mem _ (List.mem_cons_self ..))
  dsimp only at h1
  rw [c3] at h1
  obtain ⟨a1, e1, g1⟩ := ty_i64 h1 Try.underlying3
  have e1 := drop_more e1 rfl
  have h2 := hf _ (List.mem_cons_of_mem _ (List.mem_cons_of_mem _ (List.mem_cons_self ..)))
  dsimp only at h2
  rw [c23] at h2
  obtain ⟨a2, e2, g2⟩ := ty_Vec h2
  have e2 := drop_more e2 rfl
  have h3 := hf _ (List.mem_cons_of_mem _ (List.mem_cons_of_mem _ (List.mem_cons_of_mem _ (List.mem_cons_self ..))))
  dsimp only at h3
  rw [c24] at h3
  obtain ⟨a3, e3, g3⟩ := ty_LEff h3
  have e3 := drop_more e3 rfl
  rw [drop_all' hl] at e3
  rw [e3] at e2
  rw [e2] at e1
  rw [e1] at e0
  exact ⟨⟨a0, a1, a2, a3⟩, by rw [List.drop_zero] at e0; rw [e0]; rfl, g0, g1, g2, g3⟩

theorem ty_LTxn {n : Nat} {xs : List AV} (h : TyC Try.prog n 30 xs) : ∃ a : List (Txn), xs = [.list (.agg 4) (a.map txnA)] ∧ (a.length ≤ reachBytes ∧ ∀ y ∈ a, okTxn y) := by
  obtain ⟨l, rfl, hl, hx⟩ := ty_slice h Try.underlying30
  have hs : shOf Try.prog 26 = .agg 4 := by rw [shOf_struct Try.underlying26, show Try.prog.cellsOf 26 = 4 by kernel_rfl]
  have hb : 1 ≤ Try.prog.bytesOf 26 := Nat.le_of_ble_eq_true (by kernel_rfl)
  rw [hs] at hx ⊢
  have : ∀ x ∈ l, ∃ a : Txn, x = txnA a ∧ okTxn a := by
    intro x hxl
    obtain ⟨ys, hy, rfl⟩ := hx x hxl
    obtain ⟨a, e1, g1⟩ := ty_Txn hy
    exact ⟨a, by rw [e1]; rfl, g1⟩
  obtain ⟨a, rfl, ha⟩ := list_of' this
  exact ⟨a, rfl, Nat.le_trans (by simpa using Nat.le_mul_of_pos_right (a.map txnA).length hb) hl, ha⟩

theorem ty_Item {n : Nat} {xs : List AV} (h : TyC Try.prog n 68 xs) : ∃ a : Item, xs = itemC a ∧ okItem a := by
  obtain ⟨hl, hf⟩ := ty_struct h Try.underlying68
  have c9 : Try.prog.cellsOf 9 = 1 := by kernel_rfl
  have c3 : Try.prog.cellsOf 3 = 1 := by kernel_rfl
  have c2 : Try.prog.cellsOf 2 = 1 := by kernel_rfl
  have c47 : Try.prog.cellsOf 47 = 3 := by kernel_rfl
  have c68 : Try.prog.cellsOf 68 = 8 := by kernel_rfl
  rw [c68] at hl
  have h0 := hf _ (List.mem_cons_self ..)
  dsimp only at h0
  rw [c9] at h0
  obtain ⟨a0, e0, g0⟩ := ty_str h0 Try.underlying9
  have e0 := drop_more e0 rfl
  have h1 := hf _ (List.mem_cons_of_mem _ (List.mem_cons_self ..))
  dsimp only at h1
  rw [c9] at h1
  obtain ⟨a1, e1, g1⟩ := ty_str h1 Try.underlying9
  have e1 := drop_more e1 rfl
  have h2 := hf _ (List.mem_cons_of_mem _ (List.mem_cons_of_mem _ (List.mem_cons_self ..)))
  dsimp only at h2
  rw [c3] at h2
  obtain ⟨a2, e2, g2⟩ := ty_i64 h2 Try.underlying3
  have e2 := drop_more e2 rfl
  have h3 := hf _ (List.mem_cons_of_mem _ (List.mem_cons_of_mem _ (List.mem_cons_of_mem _ (List.mem_cons_self ..))))
  dsimp only at h3
  rw [c9] at h3
  obtain ⟨a3, e3, g3⟩ := ty_str h3 Try.underlying9
  have e3 := drop_more e3 rfl
  have h4 := hf _ (List.mem_cons_of_mem _ (List.mem_cons_of_mem _ (List.mem_cons_of_mem _ (List.mem_cons_of_mem _ (List.mem_cons_self ..)))))
  dsimp only at h4
  rw [c2] at h4
  obtain ⟨a4, e4, g4⟩ := ty_i64 h4 Try.underlying2
  have e4 := drop_more e4 rfl
  have h5 := hf _ (List.mem_cons_of_mem _ (List.mem_cons_of_mem _ (List.mem_cons_of_mem _ (List.mem_cons_of_mem _ (List.mem_cons_of_mem _ (List.mem_cons_self ..))))))
  dsimp only at h5
  rw [c47] at h5
  obtain ⟨a5, e5, g5⟩ := ty_Dot h5
  have e5 := drop_more e5 rfl
  rw [drop_all' hl] at e5
  rw [e5] at e4
  rw [e4] at e3
  rw [e3] at e2
  rw [e2] at e1
  rw [e1] at e0
  exact ⟨⟨a0, a1, a2, a3, a4, a5⟩, by rw [List.drop_zero] at e0; rw [e0]; rfl, g0, g1, g2, g3, g4, g5⟩

theorem ty_LItem {n : Nat} {xs : List AV} (h : TyC Try.prog n 52 xs) : ∃ a : List (Item), xs = [.list (.agg 8) (a.map itemA)] ∧ (a.length ≤ reachBytes ∧ ∀ y ∈ a, okItem y) := by
  obtain ⟨l, rfl, hl, hx⟩ := ty_slice h Try.underlying52
  have hs : shOf Try.prog 68 = .agg 8 := by rw [shOf_struct Try.underlying68, show Try.prog.cellsOf 68 = 8 by kernel_rfl]
  have hb : 1 ≤ Try.prog.bytesOf 68 := Nat.le_of_ble_eq_true (by kernel_rfl)
  rw [hs] at hx ⊢
  have : ∀ x ∈ l, ∃ a : Item, x = itemA a ∧ okItem a := by
    intro x hxl
    obtain ⟨ys, hy, rfl⟩ := hx x hxl
    obtain ⟨a, e1, g1⟩ := ty_Item hy
    exact ⟨a, by rw [e1]; rfl, g1⟩
  obtain ⟨a, rfl, ha⟩ := list_of' this
  exact ⟨a, rfl, Nat.le_trans (by simpa using Nat.le_mul_of_pos_right (a.map itemA).length hb) hl, ha⟩

theorem ty_Lstring {n : Nat} {xs : List AV} (h : TyC Try.prog n 41 xs) : ∃ a : List (List UInt8), xs = [.list (.leaf) (a.map AV.str)] ∧ (a.length ≤ reachBytes ∧ ∀ y ∈ a, y.length ≤ reachBytes) := by
  obtain ⟨l, rfl, hl, hx⟩ := ty_slice h Try.underlying41
  have hs : shOf Try.prog 9 = .leaf := by exact shOf_str Try.underlying9
  have hb : 1 ≤ Try.prog.bytesOf 9 := Nat.le_of_ble_eq_true (by kernel_rfl)
  rw [hs] at hx ⊢
  have : ∀ x ∈ l, ∃ a : List UInt8, x = AV.str a ∧ a.length ≤ reachBytes := by
    intro x hxl
    obtain ⟨ys, hy, rfl⟩ := hx x hxl
    obtain ⟨a, e1, g1⟩ := ty_str hy Try.underlying9
    exact ⟨a, by rw [e1]; rfl, g1⟩
  obtain ⟨a, rfl, ha⟩ := list_of' this
  exact ⟨a, rfl, Nat.le_trans (by simpa using Nat.le_mul_of_pos_right (a.map AV.str).length hb) hl, ha⟩

end Go.Bv
