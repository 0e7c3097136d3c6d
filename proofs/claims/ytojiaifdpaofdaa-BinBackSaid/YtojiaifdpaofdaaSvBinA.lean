/- Part of the lift: an abstract walk of the program's code, proved sound, and what it shows of this program. -/
import Derived.Test.YtojiaifdpaofdaaSvBin
namespace Go.Bv
open Go Go.Proofs

set_option maxRecDepth 100000 in
theorem binAwake_walk : ACalls Try.prog Nm.law03_awake [] [] (.bool true) [] := by
  refine ACalls_of tab (dr_snd tab mixed) Nm.law03_awake_h rfl (by kernel_rfl) (Nat.le_of_ble_eq_true rfl) rfl ?_
  have h1 := putNum_list [] 300 (by decide) (by decide)
  rw [List.nil_append, numBytes_300] at h1
  have h2 := text_walk [2, 97, 98, 9] (by decide)
  have e : rdText [2, 97, 98, 9] = .ok ([97, 98], [9]) := rfl
  rw [e] at h2
  have h3 := sameB_walk [172, 2] [172, 2] (by decide)
  refine NCall.call (h1.args (.cons (.nils .leaf) (.cons (.refl _) .nil))) rfl rfl ?_
  refine NCall.frz 0 h2 (.cons (.own rfl rfl (by simp) (by decide) rfl) .nil) rfl rfl ?_
  refine NCall.lend h3 (.cons (.same _) (.cons (.own trivial rfl (by simp) (by decide) rfl) .nil)) rfl rfl ?_
  exact NRet.mk [] rfl ⟨.refl _, rfl⟩

/-- What bin.PutNum makes of nothing and a number. -/
theorem putNum_any (n : Int) : ∃ l : List UInt8, ∃ e : Int, ACalls Try.prog Nm.bin_PutNum [.nils, i64 n] [] (.tup [bytes l, i64 e]) [] ∧ l.length ≤ 8 ∧ ((0 ≤ n ∧ n ≤ 72057594037927935 ∧ e = 0 ∧ l = numBytes n.toNat) ∨ (e = 1 ∧ l = [])) := by
  by_cases h : 0 ≤ n ∧ n ≤ 72057594037927935
  · obtain ⟨k, rfl⟩ : ∃ k : Nat, n = k := ⟨n.toNat, by omega⟩
    refine ⟨numBytes k, 0, (putNum_list [] k (by decide) (by omega)).args (.cons (.nils .leaf) (.cons (.refl _) .nil)), numBytes_len8 (by omega), .inl ⟨h.1, h.2, rfl, rfl⟩⟩
  · exact ⟨[], 1, (putNum_bad [] n (by omega)).args (.cons (.nils .leaf) (.cons (.refl _) .nil)), by simp, .inr ⟨rfl, rfl⟩⟩

theorem putText_any (s : List UInt8) (hs : s.length ≤ 65536) : ACalls Try.prog Nm.bin_PutText [.nils, .str s] [] (.tup [.own 0 0 (numBytes s.length ++ s).length, i64 0]) [.row .vrow .leaf ((numBytes s.length ++ s).map u8)] := by
  have := (putText_walk [] s (by decide) hs).args (.cons (.nils .leaf) (.cons (.refl _) .nil))
  rwa [List.nil_append] at this
theorem putNum_own (n : Nat) (hn : n ≤ 72057594037927935) : ACalls Try.prog Nm.bin_PutNum [.nils, i64 n] [] (.tup [.own 0 0 (numBytes n).length, i64 0]) [.row .vrow .leaf ((numBytes n).map u8)] := by
  have := (putNum_walk [] n (by decide) hn).args (.cons (.nils .leaf) (.cons (.refl _) .nil))
  rwa [List.nil_append] at this

end Go.Bv
