/- Part of the lift: an abstract walk of the program's code, proved sound, and what it shows of this program. -/
import Derived.Test.YtegjfgodmenagaaSvNet
namespace Go.Bv
set_option linter.unusedSimpArgs false
set_option linter.unusedVariables false
set_option maxHeartbeats 4000000
open Go Go.Proofs

theorem shortN_iff {n : Net} (h : shortN n = true) : n.way.length ≤ 70 ∧ ∀ p ∈ n.way, p.bytes.length ≤ 1000 := by
  unfold shortN at h
  rw [Bool.and_eq_true, List.all_eq_true] at h
  exact ⟨of_decide_eq_true h.1, fun p hp => of_decide_eq_true (h.2 p hp)⟩

theorem netAll_walk (n : Net) (p : Packet) (i : Int) (hn : okNet n) (hp : okPacket p) : ACalls Try.prog Nm.law18_NetAll [netA n, packetA p, i64 i] [] (.bool true) [] := by
  refine ACalls_of tab (dr_snd tab mixed) Nm.law18_NetAll_h rfl (by kernel_rfl) (Nat.le_of_ble_eq_true rfl) rfl ?_
  have hn0 := reach_lt hn.1
  have hsh := short18_walk n (by omega)
  by_cases h0 : shortN n = true
  · rw [h0] at hsh
    obtain ⟨hl, hx⟩ := shortN_iff h0
    have hx' : ∀ p ∈ n.way, p.bytes.length ≤ 2 ^ 40 := fun p h => Nat.le_trans (hx p h) (by decide)
    by_cases h1 : p.bytes.length ≤ 1000
    · have hcp := copy18_walk n (by omega) hx'
      have hse := send_walk n p.src p.dst p.bytes (by omega) hx' (by omega)
      have hre := refSend_walk n p (by omega)
      have hta := take_walk n i (by omega) hx'
      have htw := twice_walk n i (by omega) hx'
      have hsn := same18_walk n n (by omega) hx'
      rw [decide_eq_true rfl] at hsn
      have hs2 := same18_walk ⟨n.way ++ [p]⟩ ⟨n.way ++ [p]⟩ (by simp; omega) (fun q hq => by
        rcases List.mem_append.1 hq with h | h
        · exact hx' q h
        · rw [List.mem_singleton.1 h]; omega)
      rw [decide_eq_true rfl] at hs2
      have hs3 := same18_walk ⟨[]⟩ ⟨[]⟩ (by decide) (by simp)
      rw [decide_eq_true rfl] at hs3
      by_cases h2 : 0 ≤ i ∧ i.toNat < n.way.length
      · rw [dif_pos h2] at hta htw
        have hmem := List.getElem_mem h2.2
        have hsp := samePacket_walk n.way[i.toNat] n.way[i.toNat] (hx' _ hmem)
        rw [decide_eq_true rfl] at hsp
        have hwo := refWithout_walk n i (by omega)
        unfold wo at hwo
        rw [if_pos h2] at hwo
        have hsw := same18_walk ⟨n.way.take i.toNat ++ n.way.drop (i.toNat + 1)⟩ ⟨n.way.take i.toNat ++ n.way.drop (i.toNat + 1)⟩ (by simp; omega) (fun q hq => by
          rcases List.mem_append.1 hq with h | h
          · exact hx' q (List.mem_of_mem_take h)
          · exact hx' q (List.mem_of_mem_drop h))
        rw [decide_eq_true rfl] at hsw
        have hre2 := refSend_walk n n.way[i.toNat] (by omega)
        have hs4 := same18_walk ⟨n.way ++ [n.way[i.toNat]]⟩ ⟨n.way ++ [n.way[i.toNat]]⟩ (by simp; omega) (fun q hq => by
          rcases List.mem_append.1 hq with h | h
          · exact hx' q h
          · rw [List.mem_singleton.1 h]; exact hx' _ hmem)
        rw [decide_eq_true rfl] at hs4
        obtain ⟨i, rfl⟩ : ∃ k : Nat, i = k := ⟨i.toNat, by omega⟩
        simp only [Int.toNat_natCast] at *
        have h22 := h2.2
        by_cases h3 : n.way.length < 64
        · rw [if_pos h3] at hse hre htw hre2
          refine NCall.call (netAwake_walk) rfl rfl ?_
          refine NCall.call (hsh) rfl rfl ?_
          refine ND.no (by (simp only [List.length_map, List.length_append, List.length_replicate, List.length_cons, List.length_nil, List.length_take, List.length_drop]; omega)) ?_
          refine NCall.call (hcp) rfl rfl ?_
          refine NCall.call (hse) rfl rfl ?_
          refine NCall.call (hre) rfl rfl ?_
          refine ND.yes (by omega) ?_
          refine NCall.call (hs2) rfl rfl ?_
          refine NCall.call (hta) rfl rfl ?_
          refine NCall.call (htw) rfl rfl ?_
          refine ND.no (by omega) ?_
          refine ND.no (by (simp only [List.length_map, List.length_append, List.length_replicate, List.length_cons, List.length_nil, List.length_take, List.length_drop]; omega)) ?_
          refine NP.mk (by kernel_rfl) ?_
          apply NDr.rd [0]
          · intro fH TH
            exact ⟨rfl, rfl⟩
          apply NDr.rd [0]
          · intro fH TH
            exact ⟨rfl, rfl⟩
          apply NDr.rd [0]
          · intro fH TH
            exact ⟨rfl, rfl⟩
          apply NDr.pure
          · exact ⟨rfl, rfl⟩
          apply NDr.pure
          · refine NP.mk (by omega) ?_
            refine NG.mapN (by omega) ?_
            exact ⟨rfl, rfl⟩
          apply NDr.pure
          · exact ⟨rfl, rfl⟩
          apply NDr.pure
          · refine NCall.call (hre2) rfl rfl ?_
            exact ⟨rfl, rfl⟩
          apply NDr.pure
          · exact ⟨rfl, rfl⟩
          apply NDr.pure
          · exact ⟨rfl, rfl⟩
          apply NDr.pure
          · exact ⟨rfl, rfl⟩
          apply NDr.efw []
          · exact ⟨rfl, rfl⟩
          · repeat (first | exact True.intro | refine ⟨by first | exact rfl | exact True.intro, ?_⟩)
          apply NDr.efw [8]
          · exact ⟨rfl, rfl⟩
          · repeat (first | exact True.intro | refine ⟨by first | exact rfl | exact True.intro, ?_⟩)
          apply NDr.pure
          · exact ⟨rfl, rfl⟩
          refine NP.mk (by kernel_rfl) ?_
          refine NP.mk (by kernel_rfl) ?_
          apply NDr.pure
          · exact ⟨rfl, rfl⟩
          apply NDr.pure
          · refine ND.yes (by omega) ?_
            exact ⟨rfl, rfl⟩
          apply NDr.pure
          · exact ⟨rfl, rfl⟩
          apply NDr.rd [5]
          · intro fH TH
            exact ⟨rfl, rfl⟩
          apply NDr.rd [0]
          · intro fH TH
            exact ⟨rfl, rfl⟩
          apply NDr.rd [0]
          · intro fH TH
            exact ⟨rfl, rfl⟩
          apply NDr.pure
          · exact ⟨rfl, rfl⟩
          apply NDr.pure
          · refine NP.mk (by omega) ?_
            refine NG.mapN (by omega) ?_
            exact ⟨rfl, rfl⟩
          apply NDr.pure
          · exact ⟨rfl, rfl⟩
          apply NDr.pure
          · refine NCall.call (hsp) rfl rfl ?_
            exact ⟨rfl, rfl⟩
          apply NDr.pure
          · exact ⟨rfl, rfl⟩
          apply NDr.pure
          · exact ⟨rfl, rfl⟩
          apply NDr.rd [6]
          · intro fH TH
            exact ⟨rfl, rfl⟩
          apply NDr.rd [0]
          · intro fH TH
            exact ⟨rfl, rfl⟩
          apply NDr.pure
          · exact ⟨rfl, rfl⟩
          apply NDr.pure
          · refine NCall.call (hwo) rfl rfl ?_
            exact ⟨rfl, rfl⟩
          apply NDr.pure
          · refine NCall.call (hsw) rfl rfl ?_
            exact ⟨rfl, rfl⟩
          apply NDr.pure
          · exact ⟨rfl, rfl⟩
          apply NDr.pure
          · exact ⟨rfl, rfl⟩
          apply NDr.pure
          · exact ⟨rfl, rfl⟩
          apply NDr.pure
          · exact ⟨rfl, rfl⟩
          apply NDr.pure
          · refine ND.yes (by omega) ?_
            exact ⟨rfl, rfl⟩
          apply NDr.pure
          · exact ⟨rfl, rfl⟩
          apply NDr.pure
          · exact ⟨rfl, rfl⟩
          apply NDr.rd [7]
          · intro fH TH
            exact ⟨rfl, rfl⟩
          apply NDr.rd [8]
          · intro fH TH
            exact ⟨rfl, rfl⟩
          apply NDr.pure
          · refine NCall.call (hs4) rfl rfl ?_
            exact ⟨rfl, rfl⟩
          apply NDr.pure
          · exact ⟨rfl, rfl⟩
          apply NDr.pure
          · exact ⟨rfl, rfl⟩
          apply NDr.rd [2]
          · intro fH TH
            exact ⟨rfl, rfl⟩
          apply NDr.rd [0]
          · intro fH TH
            exact ⟨rfl, rfl⟩
          apply NDr.pure
          · refine NCall.call (hsn) rfl rfl ?_
            exact ⟨rfl, rfl⟩
          apply NDr.pure
          · exact ⟨rfl, rfl⟩
          apply NDr.pure
          · exact ⟨rfl, rfl⟩
          refine NP.mk (by kernel_rfl) ?_
          exact NRet.mk [] rfl ⟨.refl _, rfl⟩
        · rw [if_neg h3] at hse hre htw hre2
          refine NCall.call (netAwake_walk) rfl rfl ?_
          refine NCall.call (hsh) rfl rfl ?_
          refine ND.no (by (simp only [List.length_map, List.length_append, List.length_replicate, List.length_cons, List.length_nil, List.length_take, List.length_drop]; omega)) ?_
          refine NCall.call (hcp) rfl rfl ?_
          refine NCall.call (hse) rfl rfl ?_
          refine NCall.call (hre) rfl rfl ?_
          refine ND.yes (by omega) ?_
          refine NCall.call (hs3) rfl rfl ?_
          refine NCall.call (hta) rfl rfl ?_
          refine NCall.call (htw) rfl rfl ?_
          refine ND.no (by omega) ?_
          refine ND.no (by (simp only [List.length_map, List.length_append, List.length_replicate, List.length_cons, List.length_nil, List.length_take, List.length_drop]; omega)) ?_
          refine NP.mk (by kernel_rfl) ?_
          apply NDr.rd [0]
          · intro fH TH
            exact ⟨rfl, rfl⟩
          apply NDr.rd [0]
          · intro fH TH
            exact ⟨rfl, rfl⟩
          apply NDr.rd [0]
          · intro fH TH
            exact ⟨rfl, rfl⟩
          apply NDr.pure
          · exact ⟨rfl, rfl⟩
          apply NDr.pure
          · refine NP.mk (by omega) ?_
            refine NG.mapN (by omega) ?_
            exact ⟨rfl, rfl⟩
          apply NDr.pure
          · exact ⟨rfl, rfl⟩
          apply NDr.pure
          · refine NCall.call (hre2) rfl rfl ?_
            exact ⟨rfl, rfl⟩
          apply NDr.pure
          · exact ⟨rfl, rfl⟩
          apply NDr.pure
          · exact ⟨rfl, rfl⟩
          apply NDr.pure
          · exact ⟨rfl, rfl⟩
          apply NDr.efw []
          · exact ⟨rfl, rfl⟩
          · repeat (first | exact True.intro | refine ⟨by first | exact rfl | exact True.intro, ?_⟩)
          apply NDr.efw [8]
          · exact ⟨rfl, rfl⟩
          · repeat (first | exact True.intro | refine ⟨by first | exact rfl | exact True.intro, ?_⟩)
          apply NDr.pure
          · exact ⟨rfl, rfl⟩
          refine NP.mk (by kernel_rfl) ?_
          refine NP.mk (by kernel_rfl) ?_
          apply NDr.pure
          · exact ⟨rfl, rfl⟩
          apply NDr.pure
          · refine ND.yes (by omega) ?_
            exact ⟨rfl, rfl⟩
          apply NDr.pure
          · exact ⟨rfl, rfl⟩
          apply NDr.rd [5]
          · intro fH TH
            exact ⟨rfl, rfl⟩
          apply NDr.rd [0]
          · intro fH TH
            exact ⟨rfl, rfl⟩
          apply NDr.rd [0]
          · intro fH TH
            exact ⟨rfl, rfl⟩
          apply NDr.pure
          · exact ⟨rfl, rfl⟩
          apply NDr.pure
          · refine NP.mk (by omega) ?_
            refine NG.mapN (by omega) ?_
            exact ⟨rfl, rfl⟩
          apply NDr.pure
          · exact ⟨rfl, rfl⟩
          apply NDr.pure
          · refine NCall.call (hsp) rfl rfl ?_
            exact ⟨rfl, rfl⟩
          apply NDr.pure
          · exact ⟨rfl, rfl⟩
          apply NDr.pure
          · exact ⟨rfl, rfl⟩
          apply NDr.rd [6]
          · intro fH TH
            exact ⟨rfl, rfl⟩
          apply NDr.rd [0]
          · intro fH TH
            exact ⟨rfl, rfl⟩
          apply NDr.pure
          · exact ⟨rfl, rfl⟩
          apply NDr.pure
          · refine NCall.call (hwo) rfl rfl ?_
            exact ⟨rfl, rfl⟩
          apply NDr.pure
          · refine NCall.call (hsw) rfl rfl ?_
            exact ⟨rfl, rfl⟩
          apply NDr.pure
          · exact ⟨rfl, rfl⟩
          apply NDr.pure
          · exact ⟨rfl, rfl⟩
          apply NDr.pure
          · exact ⟨rfl, rfl⟩
          apply NDr.pure
          · exact ⟨rfl, rfl⟩
          apply NDr.pure
          · refine ND.yes (by omega) ?_
            exact ⟨rfl, rfl⟩
          apply NDr.pure
          · exact ⟨rfl, rfl⟩
          apply NDr.pure
          · exact ⟨rfl, rfl⟩
          apply NDr.rd [7]
          · intro fH TH
            exact ⟨rfl, rfl⟩
          apply NDr.rd [8]
          · intro fH TH
            exact ⟨rfl, rfl⟩
          apply NDr.pure
          · refine NCall.call (hs3) rfl rfl ?_
            exact ⟨rfl, rfl⟩
          apply NDr.pure
          · exact ⟨rfl, rfl⟩
          apply NDr.pure
          · exact ⟨rfl, rfl⟩
          apply NDr.rd [2]
          · intro fH TH
            exact ⟨rfl, rfl⟩
          apply NDr.rd [0]
          · intro fH TH
            exact ⟨rfl, rfl⟩
          apply NDr.pure
          · refine NCall.call (hsn) rfl rfl ?_
            exact ⟨rfl, rfl⟩
          apply NDr.pure
          · exact ⟨rfl, rfl⟩
          apply NDr.pure
          · exact ⟨rfl, rfl⟩
          refine NP.mk (by kernel_rfl) ?_
          exact NRet.mk [] rfl ⟨.refl _, rfl⟩
      · rw [dif_neg h2] at hta htw
        have hsp := (samePacket_walk ⟨0, 0, []⟩ ⟨0, 0, []⟩ (by decide)).args (args := [packetA ⟨0, 0, []⟩, .agg [i64 0, i64 0, .nils]]) (.cons (LeA.refl _) (.cons (.agg (.cons (LeA.refl _) (.cons (LeA.refl _) (.cons (.nils _) .nil)))) .nil))
        rw [decide_eq_true rfl] at hsp
        by_cases h3 : n.way.length < 64
        · rw [if_pos h3] at hse hre
          by_cases h4 : i < 0
          · refine NCall.call (netAwake_walk) rfl rfl ?_
            refine NCall.call (hsh) rfl rfl ?_
            refine ND.no (by (simp only [List.length_map, List.length_append, List.length_replicate, List.length_cons, List.length_nil, List.length_take, List.length_drop]; omega)) ?_
            refine NCall.call (hcp) rfl rfl ?_
            refine NCall.call (hse) rfl rfl ?_
            refine NCall.call (hre) rfl rfl ?_
            refine ND.yes (by omega) ?_
            refine NCall.call (hs2) rfl rfl ?_
            refine NCall.call (hta) rfl rfl ?_
            refine NCall.call (htw) rfl rfl ?_
            refine ND.yes (by omega) ?_
            refine ND.yes (by omega) ?_
            refine ND.yes (by omega) ?_
            refine NCall.call (hsp) rfl rfl ?_
            refine NW.i64 (by (simp only [List.length_map, List.length_append, List.length_replicate, List.length_cons, List.length_nil, List.length_take, List.length_drop]; omega)) (by (simp only [List.length_map, List.length_append, List.length_replicate, List.length_cons, List.length_nil, List.length_take, List.length_drop]; omega)) ?_
            refine ND.yes (by rfl) ?_
            refine NCall.call (hsn) rfl rfl ?_
            exact NRet.mk [] rfl ⟨.refl _, rfl⟩
          · refine NCall.call (netAwake_walk) rfl rfl ?_
            refine NCall.call (hsh) rfl rfl ?_
            refine ND.no (by (simp only [List.length_map, List.length_append, List.length_replicate, List.length_cons, List.length_nil, List.length_take, List.length_drop]; omega)) ?_
            refine NCall.call (hcp) rfl rfl ?_
            refine NCall.call (hse) rfl rfl ?_
            refine NCall.call (hre) rfl rfl ?_
            refine ND.yes (by omega) ?_
            refine NCall.call (hs2) rfl rfl ?_
            refine NCall.call (hta) rfl rfl ?_
            refine NCall.call (htw) rfl rfl ?_
            refine ND.no (by omega) ?_
            refine ND.yes (by (simp only [List.length_map, List.length_append, List.length_replicate, List.length_cons, List.length_nil, List.length_take, List.length_drop]; omega)) ?_
            refine ND.yes (by omega) ?_
            refine ND.yes (by omega) ?_
            refine NCall.call (hsp) rfl rfl ?_
            refine NW.i64 (by (simp only [List.length_map, List.length_append, List.length_replicate, List.length_cons, List.length_nil, List.length_take, List.length_drop]; omega)) (by (simp only [List.length_map, List.length_append, List.length_replicate, List.length_cons, List.length_nil, List.length_take, List.length_drop]; omega)) ?_
            refine ND.yes (by rfl) ?_
            refine NCall.call (hsn) rfl rfl ?_
            exact NRet.mk [] rfl ⟨.refl _, rfl⟩
        · rw [if_neg h3] at hse hre
          by_cases h4 : i < 0
          · refine NCall.call (netAwake_walk) rfl rfl ?_
            refine NCall.call (hsh) rfl rfl ?_
            refine ND.no (by (simp only [List.length_map, List.length_append, List.length_replicate, List.length_cons, List.length_nil, List.length_take, List.length_drop]; omega)) ?_
            refine NCall.call (hcp) rfl rfl ?_
            refine NCall.call (hse) rfl rfl ?_
            refine NCall.call (hre) rfl rfl ?_
            refine ND.yes (by omega) ?_
            refine NCall.call (hs3) rfl rfl ?_
            refine NCall.call (hta) rfl rfl ?_
            refine NCall.call (htw) rfl rfl ?_
            refine ND.yes (by omega) ?_
            refine ND.yes (by omega) ?_
            refine ND.yes (by omega) ?_
            refine NCall.call (hsp) rfl rfl ?_
            refine NW.i64 (by (simp only [List.length_map, List.length_append, List.length_replicate, List.length_cons, List.length_nil, List.length_take, List.length_drop]; omega)) (by (simp only [List.length_map, List.length_append, List.length_replicate, List.length_cons, List.length_nil, List.length_take, List.length_drop]; omega)) ?_
            refine ND.yes (by rfl) ?_
            refine NCall.call (hsn) rfl rfl ?_
            exact NRet.mk [] rfl ⟨.refl _, rfl⟩
          · refine NCall.call (netAwake_walk) rfl rfl ?_
            refine NCall.call (hsh) rfl rfl ?_
            refine ND.no (by (simp only [List.length_map, List.length_append, List.length_replicate, List.length_cons, List.length_nil, List.length_take, List.length_drop]; omega)) ?_
            refine NCall.call (hcp) rfl rfl ?_
            refine NCall.call (hse) rfl rfl ?_
            refine NCall.call (hre) rfl rfl ?_
            refine ND.yes (by omega) ?_
            refine NCall.call (hs3) rfl rfl ?_
            refine NCall.call (hta) rfl rfl ?_
            refine NCall.call (htw) rfl rfl ?_
            refine ND.no (by omega) ?_
            refine ND.yes (by (simp only [List.length_map, List.length_append, List.length_replicate, List.length_cons, List.length_nil, List.length_take, List.length_drop]; omega)) ?_
            refine ND.yes (by omega) ?_
            refine ND.yes (by omega) ?_
            refine NCall.call (hsp) rfl rfl ?_
            refine NW.i64 (by (simp only [List.length_map, List.length_append, List.length_replicate, List.length_cons, List.length_nil, List.length_take, List.length_drop]; omega)) (by (simp only [List.length_map, List.length_append, List.length_replicate, List.length_cons, List.length_nil, List.length_take, List.length_drop]; omega)) ?_
            refine ND.yes (by rfl) ?_
            refine NCall.call (hsn) rfl rfl ?_
            exact NRet.mk [] rfl ⟨.refl _, rfl⟩
    · refine NCall.call (netAwake_walk) rfl rfl ?_
      refine NCall.call (hsh) rfl rfl ?_
      refine ND.yes (by (simp only [List.length_map, List.length_append, List.length_replicate, List.length_cons, List.length_nil, List.length_take, List.length_drop]; omega)) ?_
      exact NRet.mk [] rfl ⟨.refl _, rfl⟩
  · rw [Bool.not_eq_true] at h0
    rw [h0] at hsh
    refine NCall.call (netAwake_walk) rfl rfl ?_
    refine NCall.call (hsh) rfl rfl ?_
    exact NRet.mk [] rfl ⟨.refl _, rfl⟩

theorem netDoubled_walk (n : Net) (p : Packet) (i : Int) (hn : okNet n) (hp : okPacket p) : ACalls Try.prog Nm.law18_NetDoubled [netA n, packetA p, i64 i] [] (.bool true) [] := by
  refine ACalls_of tab (dr_snd tab mixed) Nm.law18_NetDoubled_h rfl (by kernel_rfl) (Nat.le_of_ble_eq_true rfl) rfl ?_
  have hn0 := reach_lt hn.1
  have hsh := short18_walk n (by omega)
  by_cases h0 : shortN n = true
  · rw [h0] at hsh
    obtain ⟨hl, hx⟩ := shortN_iff h0
    have hx' : ∀ p ∈ n.way, p.bytes.length ≤ 2 ^ 40 := fun p h => Nat.le_trans (hx p h) (by decide)
    by_cases h1 : p.bytes.length ≤ 1000
    · have hse := send_walk n p.src p.dst p.bytes (by omega) hx' (by omega)
      have htw := twice_walk n i (by omega) hx'
      have hsn := same18_walk n n (by omega) hx'
      rw [decide_eq_true rfl] at hsn
      have htk : ∀ q : Packet, q.bytes.length ≤ 1000 → ACalls Try.prog Nm.net_Take [netA ⟨n.way ++ [q]⟩, i64 n.way.length] [] (.tup [packetA q, netA n, i64 0]) [] := fun q hq => by
        have := take_walk ⟨n.way ++ [q]⟩ n.way.length (by simp; omega) (fun r hr => by
          rcases List.mem_append.1 hr with h | h
          · exact hx' r h
          · rw [List.mem_singleton.1 h]; omega)
        rw [dif_pos (by simp)] at this
        simp only [Int.toNat_natCast, List.getElem_append_right (Nat.le_refl _), Nat.sub_self, List.getElem_cons_zero, List.take_left' rfl, List.drop_eq_nil_of_le (show (n.way ++ [q]).length ≤ n.way.length + 1 by simp), List.append_nil] at this
        exact this
      have hsp : ∀ q : Packet, q.bytes.length ≤ 1000 → ACalls Try.prog Nm.ref18_SamePacket [packetA q, packetA q] [] (.bool true) [] := fun q hq => by
        have := samePacket_walk q q (by omega)
        rwa [decide_eq_true rfl] at this
      by_cases h2 : 0 ≤ i ∧ i.toNat < n.way.length
      · rw [dif_pos h2] at htw
        have hmem := List.getElem_mem h2.2
        have ht2 := htk _ (hx _ hmem)
        have hp2 := hsp _ (hx _ hmem)
        have ht3 := htk _ h1
        have hp3 := hsp _ h1
        obtain ⟨i, rfl⟩ : ∃ k : Nat, i = k := ⟨i.toNat, by omega⟩
        simp only [Int.toNat_natCast] at *
        have h22 := h2.2
        by_cases h3 : n.way.length < 64
        · rw [if_pos h3] at hse htw
          refine NCall.call (netAwake_walk) rfl rfl ?_
          refine NCall.call (hsh) rfl rfl ?_
          refine ND.no (by (simp only [List.length_map, List.length_append, List.length_replicate, List.length_cons, List.length_nil, List.length_take, List.length_drop]; omega)) ?_
          refine NCall.call (htw) rfl rfl ?_
          refine ND.yes (by omega) ?_
          refine NCall.eq (by simp only [List.length_map] <;> exact rfl) ?_
          refine NCall.call (ht2) rfl rfl ?_
          refine NP.mk (by kernel_rfl) ?_
          apply NDr.pure
          · exact ⟨rfl, rfl⟩
          apply NDr.pure
          · refine ND.yes (by omega) ?_
            exact ⟨rfl, rfl⟩
          apply NDr.pure
          · exact ⟨rfl, rfl⟩
          apply NDr.rd [4]
          · intro fH TH
            exact ⟨rfl, rfl⟩
          apply NDr.rd [0]
          · intro fH TH
            exact ⟨rfl, rfl⟩
          apply NDr.pure
          · refine NCall.call (hsn) rfl rfl ?_
            exact ⟨rfl, rfl⟩
          apply NDr.pure
          · exact ⟨rfl, rfl⟩
          apply NDr.pure
          · exact ⟨rfl, rfl⟩
          apply NDr.pure
          · exact ⟨rfl, rfl⟩
          apply NDr.rd [3]
          · intro fH TH
            exact ⟨rfl, rfl⟩
          apply NDr.rd [0]
          · intro fH TH
            exact ⟨rfl, rfl⟩
          apply NDr.rd [0]
          · intro fH TH
            exact ⟨rfl, rfl⟩
          apply NDr.pure
          · exact ⟨rfl, rfl⟩
          apply NDr.pure
          · refine NP.mk (by omega) ?_
            refine NG.mapN (by omega) ?_
            exact ⟨rfl, rfl⟩
          apply NDr.pure
          · exact ⟨rfl, rfl⟩
          apply NDr.pure
          · refine NCall.call (hp2) rfl rfl ?_
            exact ⟨rfl, rfl⟩
          apply NDr.pure
          · exact ⟨rfl, rfl⟩
          apply NDr.pure
          · exact ⟨rfl, rfl⟩
          refine NP.mk (by kernel_rfl) ?_
          refine NCall.call (hse) rfl rfl ?_
          refine ND.yes (by omega) ?_
          refine NCall.eq (by simp only [List.length_map] <;> exact rfl) ?_
          refine NCall.call (ht3) rfl rfl ?_
          refine ND.yes (by omega) ?_
          refine NCall.call (hsn) rfl rfl ?_
          refine NCall.call (hp3) rfl rfl ?_
          exact NRet.mk [] rfl ⟨.refl _, rfl⟩
        · rw [if_neg h3] at hse htw
          refine NCall.call (netAwake_walk) rfl rfl ?_
          refine NCall.call (hsh) rfl rfl ?_
          refine ND.no (by (simp only [List.length_map, List.length_append, List.length_replicate, List.length_cons, List.length_nil, List.length_take, List.length_drop]; omega)) ?_
          refine NCall.call (htw) rfl rfl ?_
          refine ND.no (by omega) ?_
          refine NCall.call (hse) rfl rfl ?_
          refine ND.no (by omega) ?_
          refine ND.yes (by (simp only [List.length_map, List.length_append, List.length_replicate, List.length_cons, List.length_nil, List.length_take, List.length_drop]; omega)) ?_
          exact NRet.mk [] rfl ⟨.refl _, rfl⟩
      · rw [dif_neg h2] at htw
        have ht3 := htk _ h1
        have hp3 := hsp _ h1
        by_cases h3 : n.way.length < 64
        · rw [if_pos h3] at hse
          refine NCall.call (netAwake_walk) rfl rfl ?_
          refine NCall.call (hsh) rfl rfl ?_
          refine ND.no (by (simp only [List.length_map, List.length_append, List.length_replicate, List.length_cons, List.length_nil, List.length_take, List.length_drop]; omega)) ?_
          refine NCall.call (htw) rfl rfl ?_
          refine ND.no (by omega) ?_
          refine NCall.call (hse) rfl rfl ?_
          refine ND.yes (by omega) ?_
          refine NCall.eq (by simp only [List.length_map] <;> exact rfl) ?_
          refine NCall.call (ht3) rfl rfl ?_
          refine ND.yes (by omega) ?_
          refine NCall.call (hsn) rfl rfl ?_
          refine NCall.call (hp3) rfl rfl ?_
          exact NRet.mk [] rfl ⟨.refl _, rfl⟩
        · rw [if_neg h3] at hse
          refine NCall.call (netAwake_walk) rfl rfl ?_
          refine NCall.call (hsh) rfl rfl ?_
          refine ND.no (by (simp only [List.length_map, List.length_append, List.length_replicate, List.length_cons, List.length_nil, List.length_take, List.length_drop]; omega)) ?_
          refine NCall.call (htw) rfl rfl ?_
          refine ND.no (by omega) ?_
          refine NCall.call (hse) rfl rfl ?_
          refine ND.no (by omega) ?_
          refine ND.yes (by (simp only [List.length_map, List.length_append, List.length_replicate, List.length_cons, List.length_nil, List.length_take, List.length_drop]; omega)) ?_
          exact NRet.mk [] rfl ⟨.refl _, rfl⟩
    · refine NCall.call (netAwake_walk) rfl rfl ?_
      refine NCall.call (hsh) rfl rfl ?_
      refine ND.yes (by (simp only [List.length_map, List.length_append, List.length_replicate, List.length_cons, List.length_nil, List.length_take, List.length_drop]; omega)) ?_
      exact NRet.mk [] rfl ⟨.refl _, rfl⟩
  · rw [Bool.not_eq_true] at h0
    rw [h0] at hsh
    refine NCall.call (netAwake_walk) rfl rfl ?_
    refine NCall.call (hsh) rfl rfl ?_
    exact NRet.mk [] rfl ⟨.refl _, rfl⟩
end Go.Bv
