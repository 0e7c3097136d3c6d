/- Part of the lift: an abstract walk of the program's code, proved sound, and what it shows of this program. -/
import Derived.Test.YtojiaifdpaofdaaSvBin
namespace Go.Bv
open Go Go.Proofs

set_option maxRecDepth 100000 in
theorem binAwake_walk : ACalls Try.prog Nm.law03_awake [] [] (.bool true) [] := by
  refine ACalls_of tab (dr_snd tab mixed) Nm.law03_awake_h rfl (by kernel_rfl) (Nat.le_of_ble_eq_true rfl) rfl ?_
  have h1 := putNum_list [] 300 (by decide) (by decide)
  rw [List.nil_append, numBytes_300] at h1
  have h2 := text_walk [2, 97, 98, 9] (by decide)
  have e : rdText [2, 97, 98, 9] = .ok ([97, 98], [9]) := rfl
  rw [e] at h2
  have h3 := sameB_walk [172, 2] [172, 2] (by decide)
  refine NCall.call (h1.args (.cons (.nils .leaf) (.cons (.refl _) .nil))) rfl rfl ?_
  refine NCall.frz 0 h2 (.cons (.own rfl rfl (by simp) (by decide) rfl) .nil) rfl rfl ?_
  refine NCall.lend h3 (.cons (.same _) (.cons (.own trivial rfl (by simp) (by decide) rfl) .nil)) rfl rfl ?_
  exact NRet.mk [] rfl ⟨.refl _, rfl⟩

/-- What bin.PutNum makes of nothing and a number. -/
theorem putNum_any (n : Int) : ∃ l : List UInt8, ∃ e : Int, ACalls Try.prog Nm.bin_PutNum [.nils, i64 n] [] (.tup [bytes l, i64 e]) [] ∧ l.length ≤ 8 ∧ ((0 ≤ n ∧ n ≤ 72057594037927935 ∧ e = 0 ∧ l = numBytes n.toNat) ∨ (e = 1 ∧ l = [])) := by
  by_cases h : 0 ≤ n ∧ n ≤ 72057594037927935
  · obtain ⟨k, rfl⟩ : ∃ k : Nat, n = k := ⟨n.toNat, by omega⟩
    refine ⟨numBytes k, 0, (putNum_list [] k (by decide) (by omega)).args (.cons (.nils .leaf) (.cons (.refl _) .nil)), numBytes_len8 (by omega), .inl ⟨h.1, h.2, rfl, rfl⟩⟩
  · exact ⟨[], 1, (putNum_bad [] n (by omega)).args (.cons (.nils .leaf) (.cons (.refl _) .nil)), by simp, .inr ⟨rfl, rfl⟩⟩

theorem binSize_walk (n m : Int) : ACalls Try.prog Nm.law03_BinSize [i64 n, i64 m] [] (.bool true) [] := by
  refine ACalls_of tab (dr_snd tab mixed) Nm.law03_BinSize_h rfl (by kernel_rfl) (Nat.le_of_ble_eq_true rfl) rfl ?_
  refine NCall.call binAwake_walk rfl rfl ?_
  obtain ⟨a, e, h1, ha8, h1'⟩ := putNum_any n
  obtain ⟨b, f, h2, hb8, h2'⟩ := putNum_any m
  refine NCall.call h1 rfl rfl (NCall.call h2 rfl rfl ?_)
  have fin0 : ∀ (v : AV), v = .bool true → LeA v (.bool true) := fun v h => h ▸ .refl _
  rcases h1' with ⟨hn0, hn1, rfl, rfl⟩ | ⟨rfl, rfl⟩
  · rcases h2' with ⟨hm0, hm1, rfl, rfl⟩ | ⟨rfl, rfl⟩
    · obtain ⟨j, rfl⟩ : ∃ j : Nat, n = j := ⟨n.toNat, by omega⟩
      obtain ⟨k, rfl⟩ : ∃ k : Nat, m = k := ⟨m.toNat, by omega⟩
      have hsz := numBytes_size j
      have hmn := fun h => numBytes_mono k j h
      have hqs := numBytes_size
      rw [show Int.toNat (j : Int) = j from rfl] at ha8 h1 ⊢
      rw [show Int.toNat (k : Int) = k from rfl] at hb8 h2 ⊢
      generalize numBytes j = A at *
      generalize numBytes k = B at *
      refine NP.mk (by decide) (NW.mk ((j / 128 : Nat) : Int) (tdiv128 j (by omega)) ?_)
      refine NLoop.mk [] [0, 1, 5, 7, 9, 10] (fun q vs H => ∃ (x s : Nat), q = x ∧ x < 2 ^ 60 ∧ s + moreBytes x = A.length ∧ H = [] ∧ vs = [i64 j, i64 k, bytes A, bytes B, i64 s, i64 x]) rfl ?_ ?_
      · exact Canon.mk [] rfl ⟨j / 128, j / 128, 1, rfl, by omega, hsz.symm, rfl, rfl⟩
      · rintro q vs H ⟨x, s, rfl, hx, hs, rfl, rfl⟩
        refine NB.dec (fun h => ?_) (fun h => ?_)
        · refine NW.i64 (by omega) (by omega) (NP.mk (by decide) (NW.mk ((q / 128 : Nat) : Int) (tdiv128 q (by omega)) ?_))
          refine Canon.mk [] rfl ⟨q / 128, by omega, q / 128, s + 1, rfl, by omega, ?_, rfl, rfl⟩
          have := hqs q
          unfold moreBytes at hs
          rw [if_pos (by omega)] at hs
          omega
        · have hq : s = A.length := by
            unfold moreBytes at hs
            rw [if_neg (by omega)] at hs
            omega
          refine NB.dec (fun h1 => ?_) (fun h1 => ?_)
          · refine NB.dec (fun h2 => ?_) (fun h2 => ?_)
            · exact NRet.mk [] rfl ⟨.refl _, rfl⟩
            · refine NB.dec (fun h3 => ?_) (fun h3 => ?_)
              · exact NRet.mk [] rfl ⟨.refl _, rfl⟩
              · have := hmn (by omega)
                refine absurd ?_ h3
                simp only [List.length_map]; omega
          · refine absurd ?_ h1
            simp only [List.length_map]; omega
    · exact NRet.mk [] rfl ⟨.refl _, rfl⟩
  · rcases h2' with ⟨hm0, hm1, rfl, rfl⟩ | ⟨rfl, rfl⟩
    · exact NRet.mk [] rfl ⟨.refl _, rfl⟩
    · exact NRet.mk [] rfl ⟨.refl _, rfl⟩

end Go.Bv
