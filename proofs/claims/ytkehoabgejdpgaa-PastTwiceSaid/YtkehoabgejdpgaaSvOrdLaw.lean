/- Part of the lift: an abstract walk of the program's code, proved sound, and what it shows of this program. -/
import Derived.Test.YtkehoabgejdpgaaSvTxnF
namespace Go.Bv
set_option linter.unusedSimpArgs false
set_option linter.unusedVariables false
set_option maxHeartbeats 4000000
open Go Go.Proofs

theorem shortT_sm {l : List Txn} (h : shortT l = true) (ho : ∀ t ∈ l, okTxn t) : l.length ≤ 24 ∧ ∀ t ∈ l, smTxn t := by
  unfold shortT at h
  rw [Bool.and_eq_true, List.all_eq_true] at h
  refine ⟨of_decide_eq_true h.1, fun t ht => ?_⟩
  have := h.2 t ht
  rw [Bool.and_eq_true] at this
  obtain ⟨h1, h2⟩ := this
  have h1 := of_decide_eq_true h1
  unfold shortEs at h2
  rw [Bool.and_eq_true, List.all_eq_true] at h2
  have h3 := of_decide_eq_true h2.1
  refine ⟨(ho t ht).2.1, by omega, by omega, fun e he => ?_⟩
  have := of_decide_eq_true (h2.2 e he)
  exact ⟨by omega, by omega, by omega, by omega⟩
theorem short1_sm {t : Txn} (h : shortT [t] = true) (ho : okTxn t) : smTxn t := (shortT_sm h (by simpa using ho)).2 t (by simp)
theorem takeT_sm {v : List Int} {l : List Txn} (h : ∀ t ∈ l, smTxn t) : ∀ t ∈ (takeT v l).1, smTxn t := fun t ht => h t (takeT_mem ht)
theorem nexts_len : ∀ (l : List Txn) (v : List Int), (nexts v l).length ≤ max v.length 8
  | [], v => by rw [nexts_nil]; omega
  | t :: r, v => by
    rw [nexts_cons]
    have := nexts_len r (next v t)
    have := next_len v t
    omega
theorem takeT_vlen (v : List Int) (l : List Txn) : (takeT v l).2.length ≤ max v.length 8 := by
  rw [takeT_nexts]; exact nexts_len _ _
theorem okV {v : List Int} (h : v.length ≤ reachBytes) : v.length ≤ 2 ^ 47 := by have := reach_lt h; omega

theorem awake14 : ACalls Try.prog Nm.law14_awake [] [] (.bool true) [] := by
  refine ACalls_of tab (dr_snd tab mixed) Nm.law14_awake_h rfl (by kernel_rfl) (Nat.le_of_ble_eq_true rfl) rfl ?_
  have h1 := take_walk [] [⟨0, 2, [1], []⟩, ⟨0, 1, [], []⟩] (by simp) (by simp) (by simp [smTxn, okInt])
  have e1 : takeT [] [⟨0, 2, [1], []⟩, ⟨0, 1, [], []⟩] = ([⟨0, 1, [], []⟩, ⟨0, 2, [1], []⟩], [2]) := by decide
  rw [e1] at h1
  have h2 := chain_walk [] [⟨0, 1, [], []⟩, ⟨0, 2, [1], []⟩] (by simp) (by simp) (by simp [smTxn, okInt])
  rw [show chain [] [⟨0, 1, [], []⟩, ⟨0, 2, [1], []⟩] = true by decide] at h2
  have h3 := equal7_walk [2] [2] (by simp)
  rw [decide_eq_true rfl] at h3
  refine NCall.call (ACalls.args (h1) (by repeat (first | exact LeA.refl _ | exact LeA.nils _ | refine LeA.agg ?_ | refine LeA.list _ ?_ | exact LeAs.nil | refine LeAs.cons ?_ ?_))) rfl rfl ?_
  refine ND.yes (by rfl) ?_
  refine NP.mk (by omega) ?_
  refine NG.mapN (by (simp only [List.length_map, List.length_append, List.length_replicate, List.length_cons, List.length_nil, List.length_take, List.length_drop]; omega)) ?_
  refine ND.yes (by rfl) ?_
  refine NCall.call (h3) rfl rfl ?_
  refine NCall.call (ACalls.args (h2) (by repeat (first | exact LeA.refl _ | exact LeA.nils _ | refine LeA.agg ?_ | refine LeA.list _ ?_ | exact LeAs.nil | refine LeAs.cons ?_ ?_))) rfl rfl ?_
  exact NRet.mk [] rfl ⟨.refl _, rfl⟩
theorem orderAll_walk (v : List Int) (l : List Txn) (t : Txn) (hv : v.length ≤ reachBytes) (hl : l.length ≤ reachBytes) (hx : ∀ x ∈ l, okTxn x) (ht : okTxn t) : ACalls Try.prog Nm.law14_OrderAll [ints v, txnsA l, txnA t] [] (.bool true) [] := by
  refine ACalls_of tab (dr_snd tab mixed) Nm.law14_OrderAll_h rfl (by kernel_rfl) (Nat.le_of_ble_eq_true rfl) rfl ?_
  have hv := okV hv
  have hl' := reach_lt hl
  have s1 := short13_walk l (by omega) hx
  have s2 := short13_walk [t] (by simp) (by simpa using ht)
  by_cases h0 : v.length ≤ 60
  · cases h1 : shortT l with
    | true =>
      rw [h1] at s1
      cases h2 : shortT [t] with
      | true =>
        rw [h2] at s2
        obtain ⟨hl, hs⟩ := shortT_sm h1 hx
        have hst := short1_sm h2 ht
        have a1 := copy13_walk l (by omega) hs
        have a2 := copy7_walk v (by omega)
        have a3 := take_walk v l (by omega) (by omega) hs
        have a4 := take14_walk v l (by omega) (by omega) hs
        have hts := takeT_sm (v := v) hs
        have htl := takeT_len v l
        have htv := takeT_vlen v l
        have a5 := sameAll_walk (takeT v l).1 (takeT v l).1 (by omega) hts
        have a6 := equal7_walk (takeT v l).2 (takeT v l).2 (by omega)
        have a7 := chain_walk v l (by omega) (by omega) hs
        have a8 := chain14_walk v l (by omega) (by omega) hs
        have a9 := ready_walk v t (by omega) (by have := hst.2.1; omega) hst.1
        have b1 := ready14_walk v t (by omega) (by have := hst.2.1; omega) hst.1
        have b2 := next_walk v t (by omega)
        have b3 := next14_walk v t (by omega)
        have b4 := equal7_walk (next v t) (next v t) (by have := next_len v t; omega)
        have b5 := sameAll_walk l l (by omega) hs
        have b6 := equal7_walk v v (by omega)
        rw [decide_eq_true rfl] at a5 a6 b4 b5 b6
        refine NCall.call (awake14) rfl rfl ?_
        refine ND.no (by (simp only [List.length_map, List.length_append, List.length_replicate, List.length_cons, List.length_nil, List.length_take, List.length_drop]; omega)) ?_
        refine NCall.call (s1) rfl rfl ?_
        refine NCall.call (s2) rfl rfl ?_
        refine NCall.call (a1) rfl rfl ?_
        refine NCall.call (a2) rfl rfl ?_
        refine NCall.call (a3) rfl rfl ?_
        refine NCall.call (a4) rfl rfl ?_
        refine NCall.call (a5) rfl rfl ?_
        refine NCall.call (a6) rfl rfl ?_
        refine NCall.call (a7) rfl rfl ?_
        refine NCall.call (a8) rfl rfl ?_
        refine ND.yes (by simp) ?_
        refine NP.mk (by kernel_rfl) ?_
        apply NDr.pure
        · exact ⟨rfl, rfl⟩
        apply NDr.rd [0]
        · intro fH TH
          exact ⟨rfl, rfl⟩
        apply NDr.pure
        · refine NCall.call (a9) rfl rfl ?_
          exact ⟨rfl, rfl⟩
        apply NDr.pure
        · exact ⟨rfl, rfl⟩
        apply NDr.rd [0]
        · intro fH TH
          exact ⟨rfl, rfl⟩
        apply NDr.pure
        · refine NCall.call (b1) rfl rfl ?_
          exact ⟨rfl, rfl⟩
        apply NDr.pure
        · refine ND.yes (by simp) ?_
          exact ⟨rfl, rfl⟩
        apply NDr.pure
        · exact ⟨rfl, rfl⟩
        apply NDr.pure
        · exact ⟨rfl, rfl⟩
        apply NDr.rd [0]
        · intro fH TH
          exact ⟨rfl, rfl⟩
        apply NDr.pure
        · refine NCall.call (b2) rfl rfl ?_
          exact ⟨rfl, rfl⟩
        apply NDr.pure
        · exact ⟨rfl, rfl⟩
        apply NDr.rd [0]
        · intro fH TH
          exact ⟨rfl, rfl⟩
        apply NDr.pure
        · refine NCall.call (b3) rfl rfl ?_
          exact ⟨rfl, rfl⟩
        apply NDr.pure
        · refine NCall.call (b4) rfl rfl ?_
          exact ⟨rfl, rfl⟩
        apply NDr.pure
        · exact ⟨rfl, rfl⟩
        apply NDr.pure
        · exact ⟨rfl, rfl⟩
        apply NDr.pure
        · exact ⟨rfl, rfl⟩
        apply NDr.pure
        · exact ⟨rfl, rfl⟩
        apply NDr.pure
        · refine NCall.call (b5) rfl rfl ?_
          exact ⟨rfl, rfl⟩
        apply NDr.pure
        · exact ⟨rfl, rfl⟩
        apply NDr.pure
        · exact ⟨rfl, rfl⟩
        apply NDr.pure
        · exact ⟨rfl, rfl⟩
        apply NDr.pure
        · exact ⟨rfl, rfl⟩
        apply NDr.pure
        · refine NCall.call (b6) rfl rfl ?_
          exact ⟨rfl, rfl⟩
        apply NDr.pure
        · exact ⟨rfl, rfl⟩
        apply NDr.pure
        · exact ⟨rfl, rfl⟩
        refine NP.mk (by kernel_rfl) ?_
        exact NRet.mk [] rfl ⟨.refl _, rfl⟩
      | false =>
        rw [h2] at s2
        refine NCall.call (awake14) rfl rfl ?_
        refine ND.no (by (simp only [List.length_map, List.length_append, List.length_replicate, List.length_cons, List.length_nil, List.length_take, List.length_drop]; omega)) ?_
        refine NCall.call (s1) rfl rfl ?_
        refine NCall.call (s2) rfl rfl ?_
        exact NRet.mk [] rfl ⟨.refl _, rfl⟩
    | false =>
      rw [h1] at s1
      refine NCall.call (awake14) rfl rfl ?_
      refine ND.no (by (simp only [List.length_map, List.length_append, List.length_replicate, List.length_cons, List.length_nil, List.length_take, List.length_drop]; omega)) ?_
      refine NCall.call (s1) rfl rfl ?_
      exact NRet.mk [] rfl ⟨.refl _, rfl⟩
  · refine NCall.call (awake14) rfl rfl ?_
    refine ND.yes (by (simp only [List.length_map, List.length_append, List.length_replicate, List.length_cons, List.length_nil, List.length_take, List.length_drop]; omega)) ?_
    exact NRet.mk [] rfl ⟨.refl _, rfl⟩
end Go.Bv
