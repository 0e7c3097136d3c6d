/- Part of the lift: an abstract walk of the program's code, proved sound, and what it shows of this program. -/
import Derived.Test.YtegjfgodmenagaaSvTyp
namespace Go.Bv
open Go Go.Proofs

theorem ty_LLuint8 {n : Nat} {xs : List AV} (h : TyC Try.prog n 52 xs) : ∃ a : List (List UInt8), xs = [.list (.leaf) (a.map bytes)] ∧ (a.length ≤ reachBytes ∧ ∀ y ∈ a, y.length ≤ reachBytes) := by
  obtain ⟨l, rfl, hl, hx⟩ := ty_slice h Try.underlying52
  have hs : shOf Try.prog 25 = .leaf := by exact shOf_slice Try.underlying25
  have hb : 1 ≤ Try.prog.bytesOf 25 := Nat.le_of_ble_eq_true (by kernel_rfl)
  rw [hs] at hx ⊢
  have : ∀ x ∈ l, ∃ a : List UInt8, x = bytes a ∧ a.length ≤ reachBytes := by
    intro x hxl
    obtain ⟨ys, hy, rfl⟩ := hx x hxl
    obtain ⟨a, e1, g1⟩ := ty_bytes hy Try.underlying25 Try.underlying5 (by kernel_rfl)
    exact ⟨a, by rw [e1]; rfl, g1⟩
  obtain ⟨a, rfl, ha⟩ := list_of' this
  exact ⟨a, rfl, Nat.le_trans (by simpa using Nat.le_mul_of_pos_right (a.map bytes).length hb) hl, ha⟩

theorem ty_Op06 {n : Nat} {xs : List AV} (h : TyC Try.prog n 78 xs) : ∃ a : JOp, xs = jopC a ∧ okJOp a := by
  obtain ⟨hl, hf⟩ := ty_struct h Try.underlying78
  have c3 : Try.prog.cellsOf 3 = 1 := by kernel_rfl
  have c25 : Try.prog.cellsOf 25 = 1 := by kernel_rfl
  have c78 : Try.prog.cellsOf 78 = 3 := by kernel_rfl
  rw [c78] at hl
  have h0 := hf _ (List.mem_cons_self ..)
  dsimp only at h0
  rw [c3] at h0
  obtain ⟨a0, e0, g0⟩ := ty_i64 h0 Try.underlying3
  have e0 := drop_more e0 rfl
  have h1 := hf _ (List.mem_cons_of_mem _ (List.mem_cons_self ..))
  dsimp only at h1
  rw [c3] at h1
  obtain ⟨a1, e1, g1⟩ := ty_i64 h1 Try.underlying3
  have e1 := drop_more e1 rfl
  have h2 := hf _ (List.mem_cons_of_mem _ (List.mem_cons_of_mem _ (List.mem_cons_self ..)))
  dsimp only at h2
  rw [c25] at h2
  obtain ⟨a2, e2, g2⟩ := ty_bytes h2 Try.underlying25 Try.underlying5 (by kernel_rfl)
  have e2 := drop_more e2 rfl
  rw [drop_all' hl] at e2
  rw [e2] at e1
  rw [e1] at e0
  exact ⟨⟨a0, a1, a2⟩, by rw [List.drop_zero] at e0; rw [e0]; rfl, g0, g1, g2⟩

theorem ty_LOp06 {n : Nat} {xs : List AV} (h : TyC Try.prog n 76 xs) : ∃ a : List (JOp), xs = [.list (.agg 3) (a.map jopA)] ∧ (a.length ≤ reachBytes ∧ ∀ y ∈ a, okJOp y) := by
  obtain ⟨l, rfl, hl, hx⟩ := ty_slice h Try.underlying76
  have hs : shOf Try.prog 78 = .agg 3 := by rw [shOf_struct Try.underlying78, show Try.prog.cellsOf 78 = 3 by kernel_rfl]
  have hb : 1 ≤ Try.prog.bytesOf 78 := Nat.le_of_ble_eq_true (by kernel_rfl)
  rw [hs] at hx ⊢
  have : ∀ x ∈ l, ∃ a : JOp, x = jopA a ∧ okJOp a := by
    intro x hxl
    obtain ⟨ys, hy, rfl⟩ := hx x hxl
    obtain ⟨a, e1, g1⟩ := ty_Op06 hy
    exact ⟨a, by rw [e1]; rfl, g1⟩
  obtain ⟨a, rfl, ha⟩ := list_of' this
  exact ⟨a, rfl, Nat.le_trans (by simpa using Nat.le_mul_of_pos_right (a.map jopA).length hb) hl, ha⟩

theorem ty_Packet {n : Nat} {xs : List AV} (h : TyC Try.prog n 27 xs) : ∃ a : Packet, xs = packetC a ∧ okPacket a := by
  obtain ⟨hl, hf⟩ := ty_struct h Try.underlying27
  have c3 : Try.prog.cellsOf 3 = 1 := by kernel_rfl
  have c25 : Try.prog.cellsOf 25 = 1 := by kernel_rfl
  have c27 : Try.prog.cellsOf 27 = 3 := by kernel_rfl
  rw [c27] at hl
  have h0 := hf _ (List.mem_cons_self ..)
  dsimp only at h0
  rw [c3] at h0
  obtain ⟨a0, e0, g0⟩ := ty_i64 h0 Try.underlying3
  have e0 := drop_more e0 rfl
  have h1 := hf _ (List.mem_cons_of_mem _ (List.mem_cons_self ..))
  dsimp only at h1
  rw [c3] at h1
  obtain ⟨a1, e1, g1⟩ := ty_i64 h1 Try.underlying3
  have e1 := drop_more e1 rfl
  have h2 := hf _ (List.mem_cons_of_mem _ (List.mem_cons_of_mem _ (List.mem_cons_self ..)))
  dsimp only at h2
  rw [c25] at h2
  obtain ⟨a2, e2, g2⟩ := ty_bytes h2 Try.underlying25 Try.underlying5 (by kernel_rfl)
  have e2 := drop_more e2 rfl
  rw [drop_all' hl] at e2
  rw [e2] at e1
  rw [e1] at e0
  exact ⟨⟨a0, a1, a2⟩, by rw [List.drop_zero] at e0; rw [e0]; rfl, g0, g1, g2⟩

theorem ty_LPacket {n : Nat} {xs : List AV} (h : TyC Try.prog n 22 xs) : ∃ a : List (Packet), xs = [.list (.agg 3) (a.map packetA)] ∧ (a.length ≤ reachBytes ∧ ∀ y ∈ a, okPacket y) := by
  obtain ⟨l, rfl, hl, hx⟩ := ty_slice h Try.underlying22
  have hs : shOf Try.prog 27 = .agg 3 := by rw [shOf_struct Try.underlying27, show Try.prog.cellsOf 27 = 3 by kernel_rfl]
  have hb : 1 ≤ Try.prog.bytesOf 27 := Nat.le_of_ble_eq_true (by kernel_rfl)
  rw [hs] at hx ⊢
  have : ∀ x ∈ l, ∃ a : Packet, x = packetA a ∧ okPacket a := by
    intro x hxl
    obtain ⟨ys, hy, rfl⟩ := hx x hxl
    obtain ⟨a, e1, g1⟩ := ty_Packet hy
    exact ⟨a, by rw [e1]; rfl, g1⟩
  obtain ⟨a, rfl, ha⟩ := list_of' this
  exact ⟨a, rfl, Nat.le_trans (by simpa using Nat.le_mul_of_pos_right (a.map packetA).length hb) hl, ha⟩

theorem ty_Net {n : Nat} {xs : List AV} (h : TyC Try.prog n 24 xs) : ∃ a : Net, xs = netC a ∧ okNet a := by
  obtain ⟨hl, hf⟩ := ty_struct h Try.underlying24
  have c22 : Try.prog.cellsOf 22 = 1 := by kernel_rfl
  have c24 : Try.prog.cellsOf 24 = 1 := by kernel_rfl
  rw [c24] at hl
  have h0 := hf _ (List.mem_cons_self ..)
  dsimp only at h0
  rw [c22] at h0
  obtain ⟨a0, e0, g0⟩ := ty_LPacket h0
  have e0 := drop_more e0 rfl
  rw [drop_all' hl] at e0
  exact ⟨⟨a0⟩, by rw [List.drop_zero] at e0; rw [e0]; rfl, g0⟩

theorem ty_Op18 {n : Nat} {xs : List AV} (h : TyC Try.prog n 45 xs) : ∃ a : NetOp, xs = netOpC a ∧ okNetOp a := by
  obtain ⟨hl, hf⟩ := ty_struct h Try.underlying45
  have c3 : Try.prog.cellsOf 3 = 1 := by kernel_rfl
  have c25 : Try.prog.cellsOf 25 = 1 := by kernel_rfl
  have c45 : Try.prog.cellsOf 45 = 5 := by kernel_rfl
  rw [c45] at hl
  have h0 := hf _ (List.mem_cons_self ..)
  dsimp only at h0
  rw [c3] at h0
  obtain ⟨a0, e0, g0⟩ := ty_i64 h0 Try.underlying3
  have e0 := drop_more e0 rfl
  have h1 := hf _ (List.mem_cons_of_mem _ (List.mem_cons_self ..))
  dsimp only at h1
  rw [c3] at h1
  obtain ⟨a1, e1, g1⟩ := ty_i64 h1 Try.underlying3
  have e1 := drop_more e1 rfl
  have h2 := hf _ (List.mem_cons_of_mem _ (List.mem_cons_of_mem _ (List.mem_cons_self ..)))
  dsimp only at h2
  rw [c3] at h2
  obtain ⟨a2, e2, g2⟩ := ty_i64 h2 Try.underlying3
  have e2 := drop_more e2 rfl
  have h3 := hf _ (List.mem_cons_of_mem _ (List.mem_cons_of_mem _ (List.mem_cons_of_mem _ (List.mem_cons_self ..))))
  dsimp only at h3
  rw [c3] at h3
  obtain ⟨a3, e3, g3⟩ := ty_i64 h3 Try.underlying3
  have e3 := drop_more e3 rfl
  have h4 := hf _ (List.mem_cons_of_mem _ (List.mem_cons_of_mem _ (List.mem_cons_of_mem _ (List.mem_cons_of_mem _ (List.mem_cons_self ..)))))
  dsimp only at h4
  rw [c25] at h4
  obtain ⟨a4, e4, g4⟩ := ty_bytes h4 Try.underlying25 Try.underlying5 (by kernel_rfl)
  have e4 := drop_more e4 rfl
  rw [drop_all' hl] at e4
  rw [e4] at e3
  rw [e3] at e2
  rw [e2] at e1
  rw [e1] at e0
  exact ⟨⟨a0, a1, a2, a3, a4⟩, by rw [List.drop_zero] at e0; rw [e0]; rfl, g0, g1, g2, g3, g4⟩

theorem ty_LOp18 {n : Nat} {xs : List AV} (h : TyC Try.prog n 43 xs) : ∃ a : List (NetOp), xs = [.list (.agg 5) (a.map netOpA)] ∧ (a.length ≤ reachBytes ∧ ∀ y ∈ a, okNetOp y) := by
  obtain ⟨l, rfl, hl, hx⟩ := ty_slice h Try.underlying43
  have hs : shOf Try.prog 45 = .agg 5 := by rw [shOf_struct Try.underlying45, show Try.prog.cellsOf 45 = 5 by kernel_rfl]
  have hb : 1 ≤ Try.prog.bytesOf 45 := Nat.le_of_ble_eq_true (by kernel_rfl)
  rw [hs] at hx ⊢
  have : ∀ x ∈ l, ∃ a : NetOp, x = netOpA a ∧ okNetOp a := by
    intro x hxl
    obtain ⟨ys, hy, rfl⟩ := hx x hxl
    obtain ⟨a, e1, g1⟩ := ty_Op18 hy
    exact ⟨a, by rw [e1]; rfl, g1⟩
  obtain ⟨a, rfl, ha⟩ := list_of' this
  exact ⟨a, rfl, Nat.le_trans (by simpa using Nat.le_mul_of_pos_right (a.map netOpA).length hb) hl, ha⟩

end Go.Bv
