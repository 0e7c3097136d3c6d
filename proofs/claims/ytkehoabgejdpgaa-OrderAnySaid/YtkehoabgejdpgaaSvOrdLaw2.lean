/- Part of the lift: an abstract walk of the program's code, proved sound, and what it shows of this program. -/
import Derived.Test.YtkehoabgejdpgaaSvOrdLaw
import Derived.Test.YtkehoabgejdpgaaSvPastP
namespace Go.Bv
set_option linter.unusedSimpArgs false
set_option linter.unusedVariables false
set_option maxHeartbeats 4000000
open Go Go.Proofs

theorem orderTwice_walk (v : List Int) (l : List Txn) (hv : v.length ≤ reachBytes) (hl : l.length ≤ reachBytes) (hx : ∀ x ∈ l, okTxn x) : ACalls Try.prog Nm.law14_OrderTwice [ints v, txnsA l] [] (.bool true) [] := by
  refine ACalls_of tab (dr_snd tab mixed) Nm.law14_OrderTwice_h rfl (by kernel_rfl) (Nat.le_of_ble_eq_true rfl) rfl ?_
  have hv := okV hv
  have hl' := reach_lt hl
  have s1 := short13_walk l (by omega) hx
  by_cases h0 : v.length ≤ 60
  · cases h1 : shortT l with
    | true =>
      rw [h1] at s1
      obtain ⟨hl, hs⟩ := shortT_sm h1 hx
      refine NCall.call (awake14) rfl rfl ?_
      refine ND.no (by (simp only [List.length_map, List.length_append, List.length_replicate, List.length_cons, List.length_nil, List.length_take, List.length_drop]; omega)) ?_
      refine NCall.call (s1) rfl rfl ?_
      refine NLoop.mk [] [0, 1, 5] (fun m vs H => ∃ i, i ≤ l.length ∧ m = l.length - i ∧ (∀ x ∈ l.take i, formed x = true) ∧ H = [] ∧ vs = [ints v, txnsA l, i64 i]) rfl ?_ ?_
      · exact Canon.mk [] rfl ⟨l.length, 0, Nat.zero_le _, rfl, by simp, rfl, rfl⟩
      · rintro m vs H ⟨i, hi, rfl, hf, rfl, rfl⟩
        by_cases hil : i < l.length
        · obtain ⟨f1, f2⟩ := all_step hil hf
          have h3 := formed13_walk l[i] (hs _ (List.getElem_mem hil))
          cases h4 : formed l[i] with
          | true =>
            rw [h4] at h3
            refine ND.yes (by (simp only [List.length_map, List.length_append, List.length_replicate, List.length_cons, List.length_nil, List.length_take, List.length_drop]; omega)) ?_
            refine NP.mk (by omega) ?_
            refine NG.mapN (by omega) ?_
            refine NCall.call (h3) rfl rfl ?_
            refine NW.i64 (by omega) (by omega) ?_
            exact Canon.mk [] rfl ⟨l.length - (i + 1), by omega, i + 1, by omega, rfl, f2 h4, rfl, rfl⟩
          | false =>
            rw [h4] at h3
            refine ND.yes (by (simp only [List.length_map, List.length_append, List.length_replicate, List.length_cons, List.length_nil, List.length_take, List.length_drop]; omega)) ?_
            refine NP.mk (by omega) ?_
            refine NG.mapN (by omega) ?_
            refine NCall.call (h3) rfl rfl ?_
            exact NRet.mk [] rfl ⟨.refl _, rfl⟩
        · have : i = l.length := by omega
          subst this
          rw [List.take_length] at hf
          have hok : ∀ t ∈ l, okN t := fun t ht => (formed_okN (hf t ht)).1
          have hts := takeT_sm (v := v) hs
          have htl := takeT_len v l
          have htv := takeT_vlen v l
          have a3 := take_walk v l (by omega) (by omega) hs
          have a4 := take_walk (takeT v l).2 l (by omega) (by omega) hs
          rw [take_twice hok] at a4
          have a5 := equal7_walk (takeT v l).2 (takeT v l).2 (by omega)
          rw [decide_eq_true rfl] at a5
          refine ND.no (by (simp only [List.length_map, List.length_append, List.length_replicate, List.length_cons, List.length_nil, List.length_take, List.length_drop]; omega)) ?_
          refine NCall.call (a3) rfl rfl ?_
          refine NCall.call (a4) rfl rfl ?_
          refine ND.yes (by rfl) ?_
          refine NCall.call (a5) rfl rfl ?_
          exact NRet.mk [] rfl ⟨.refl _, rfl⟩
    | false =>
      rw [h1] at s1
      refine NCall.call (awake14) rfl rfl ?_
      refine ND.no (by (simp only [List.length_map, List.length_append, List.length_replicate, List.length_cons, List.length_nil, List.length_take, List.length_drop]; omega)) ?_
      refine NCall.call (s1) rfl rfl ?_
      exact NRet.mk [] rfl ⟨.refl _, rfl⟩
  · refine NCall.call (awake14) rfl rfl ?_
    refine ND.yes (by (simp only [List.length_map, List.length_append, List.length_replicate, List.length_cons, List.length_nil, List.length_take, List.length_drop]; omega)) ?_
    exact NRet.mk [] rfl ⟨.refl _, rfl⟩
theorem orderDoubled_walk (v : List Int) (l : List Txn) (hv : v.length ≤ reachBytes) (hl : l.length ≤ reachBytes) (hx : ∀ x ∈ l, okTxn x) : ACalls Try.prog Nm.law14_OrderDoubled [ints v, txnsA l] [] (.bool true) [] := by
  refine ACalls_of tab (dr_snd tab mixed) Nm.law14_OrderDoubled_h rfl (by kernel_rfl) (Nat.le_of_ble_eq_true rfl) rfl ?_
  have hv := okV hv
  have hl' := reach_lt hl
  have s1 := short13_walk l (by omega) hx
  have s2 := twice14_walk l
  by_cases h0 : v.length ≤ 60
  · cases h1 : shortT l with
    | true =>
      rw [h1] at s1
      obtain ⟨hl, hs⟩ := shortT_sm h1 hx
      have s2 := s2 (by omega)
      cases h2 : twice l with
      | false =>
        rw [h2] at s2
        refine NCall.call (awake14) rfl rfl ?_
        refine ND.no (by (simp only [List.length_map, List.length_append, List.length_replicate, List.length_cons, List.length_nil, List.length_take, List.length_drop]; omega)) ?_
        refine NCall.call (s1) rfl rfl ?_
        refine NCall.call (s2) rfl rfl ?_
        refine NLoop.mk [] [0, 1, 5] (fun m vs H => ∃ i, i ≤ l.length ∧ m = l.length - i ∧ (∀ x ∈ l.take i, formed x = true) ∧ H = [] ∧ vs = [ints v, txnsA l, i64 i]) rfl ?_ ?_
        · exact Canon.mk [] rfl ⟨l.length, 0, Nat.zero_le _, rfl, by simp, rfl, rfl⟩
        · rintro m vs H ⟨i, hi, rfl, hf, rfl, rfl⟩
          by_cases hil : i < l.length
          · obtain ⟨f1, f2⟩ := all_step hil hf
            have h3 := formed13_walk l[i] (hs _ (List.getElem_mem hil))
            cases h4 : formed l[i] with
            | true =>
              rw [h4] at h3
              refine ND.yes (by (simp only [List.length_map, List.length_append, List.length_replicate, List.length_cons, List.length_nil, List.length_take, List.length_drop]; omega)) ?_
              refine NP.mk (by omega) ?_
              refine NG.mapN (by omega) ?_
              refine NCall.call (h3) rfl rfl ?_
              refine NW.i64 (by omega) (by omega) ?_
              exact Canon.mk [] rfl ⟨l.length - (i + 1), by omega, i + 1, by omega, rfl, f2 h4, rfl, rfl⟩
            | false =>
              rw [h4] at h3
              refine ND.yes (by (simp only [List.length_map, List.length_append, List.length_replicate, List.length_cons, List.length_nil, List.length_take, List.length_drop]; omega)) ?_
              refine NP.mk (by omega) ?_
              refine NG.mapN (by omega) ?_
              refine NCall.call (h3) rfl rfl ?_
              exact NRet.mk [] rfl ⟨.refl _, rfl⟩
          · have : i = l.length := by omega
            subst this
            rw [List.take_length] at hf
            have hok : ∀ t ∈ l, okN t := fun t ht => (formed_okN (hf t ht)).1
            have hts := takeT_sm (v := v) hs
            have htl := takeT_len v l
            have htv := takeT_vlen v l
            have a3 := take_walk v l (by omega) (by omega) hs
            have hxx : ∀ t ∈ l ++ l, smTxn t := fun t ht => by
              rcases List.mem_append.1 ht with h | h <;> exact hs t h
            have a4 := take_walk v (l ++ l) (by omega) (by simp; omega) hxx
            have hnd : (l.map dotOf).Nodup := by
              unfold twice at h2
              simpa using h2
            obtain ⟨d1, d2⟩ := take_doubled (v := v) hnd hok
            have a5 := equal7_walk (takeT v l).2 (takeT v (l ++ l)).2 (by omega)
            rw [decide_eq_true d2] at a5
            have a6 := copy13_own l (by omega) hs
            refine ND.no (by (simp only [List.length_map, List.length_append, List.length_replicate, List.length_cons, List.length_nil, List.length_take, List.length_drop]; omega)) ?_
            refine NCall.call (a3) rfl rfl ?_
            refine NCall.atA (ACalls.frame (a6) rfl _) ?_
            refine NFz.own ?_
            refine NApp.endA (by simp) (by simp; omega) ?_
            rw [(mapApp _ _ _)]
            refine NCall.eq (by simp only [List.length_map] <;> exact rfl) ?_
            refine NCall.roA [1] ?_
            rw [(tlm _ _)]
            refine NCall.call (a4) rfl rfl ?_
            refine ND.yes (by (simp only [List.length_map, List.length_append, List.length_replicate, List.length_cons, List.length_nil, List.length_take, List.length_drop]; omega)) ?_
            refine NCall.call (a5) rfl rfl ?_
            exact NRet.mk [] rfl ⟨.refl _, rfl⟩
      | true =>
        rw [h2] at s2
        refine NCall.call (awake14) rfl rfl ?_
        refine ND.no (by (simp only [List.length_map, List.length_append, List.length_replicate, List.length_cons, List.length_nil, List.length_take, List.length_drop]; omega)) ?_
        refine NCall.call (s1) rfl rfl ?_
        refine NCall.call (s2) rfl rfl ?_
        exact NRet.mk [] rfl ⟨.refl _, rfl⟩
    | false =>
      rw [h1] at s1
      refine NCall.call (awake14) rfl rfl ?_
      refine ND.no (by (simp only [List.length_map, List.length_append, List.length_replicate, List.length_cons, List.length_nil, List.length_take, List.length_drop]; omega)) ?_
      refine NCall.call (s1) rfl rfl ?_
      exact NRet.mk [] rfl ⟨.refl _, rfl⟩
  · refine NCall.call (awake14) rfl rfl ?_
    refine ND.yes (by (simp only [List.length_map, List.length_append, List.length_replicate, List.length_cons, List.length_nil, List.length_take, List.length_drop]; omega)) ?_
    exact NRet.mk [] rfl ⟨.refl _, rfl⟩
theorem orderChain_walk (v : List Int) (l : List Txn) (hv : v.length ≤ reachBytes) (hl : l.length ≤ reachBytes) (hx : ∀ x ∈ l, okTxn x) : ACalls Try.prog Nm.law14_OrderChain [ints v, txnsA l] [] (.bool true) [] := by
  refine ACalls_of tab (dr_snd tab mixed) Nm.law14_OrderChain_h rfl (by kernel_rfl) (Nat.le_of_ble_eq_true rfl) rfl ?_
  have hv := okV hv
  have hl' := reach_lt hl
  have s1 := short13_walk l (by omega) hx
  have s2 := twice14_walk l
  by_cases h0 : v.length ≤ 60
  · cases h1 : shortT l with
    | true =>
      rw [h1] at s1
      obtain ⟨hl, hs⟩ := shortT_sm h1 hx
      have s2 := s2 (by omega)
      cases h2 : twice l with
      | false =>
        rw [h2] at s2
        have hts := takeT_sm (v := v) hs
        have htl := takeT_len v l
        have htv := takeT_vlen v l
        have hch := takeT_chain v l
        have a3 := take_walk v l (by omega) (by omega) hs
        have a4 := take_walk v (takeT v l).1 (by omega) (by omega) hts
        rw [takeT_of_chain hch, ← takeT_nexts] at a4
        dsimp only at a4
        have a7 := chain_walk v (takeT v l).1 (by omega) (by omega) hts
        rw [hch] at a7
        have a5 := sameAll_walk (takeT v l).1 (takeT v l).1 (by omega) hts
        have a6 := equal7_walk (takeT v l).2 (takeT v l).2 (by omega)
        rw [decide_eq_true rfl] at a5 a6
        refine NCall.call (awake14) rfl rfl ?_
        refine ND.no (by (simp only [List.length_map, List.length_append, List.length_replicate, List.length_cons, List.length_nil, List.length_take, List.length_drop]; omega)) ?_
        refine NCall.call (s1) rfl rfl ?_
        refine NCall.call (s2) rfl rfl ?_
        refine NCall.call (a3) rfl rfl ?_
        refine NCall.call (a4) rfl rfl ?_
        refine NCall.call (a7) rfl rfl ?_
        refine NCall.call (a5) rfl rfl ?_
        refine NCall.call (a6) rfl rfl ?_
        obtain ⟨r, hp, hr⟩ := takeT_rest v l
        refine NLoop.mk [] [0, 1, 5, 6, 9] (fun m vs H => ∃ i, i ≤ l.length ∧ m = l.length - i ∧ H = [] ∧ vs = [ints v, txnsA l, txnsA (takeT v l).1, ints (takeT v l).2, i64 i]) rfl ?_ ?_
        · exact Canon.mk [] rfl ⟨l.length, 0, Nat.zero_le _, rfl, rfl, rfl⟩
        · rintro m vs H ⟨i, hi, rfl, rfl, rfl⟩
          by_cases hil : i < l.length
          · refine ND.yes (by (simp only [List.length_map, List.length_append, List.length_replicate, List.length_cons, List.length_nil, List.length_take, List.length_drop]; omega)) ?_
            have hlw := hs _ (List.getElem_mem hil)
            refine NLoop.mk [] [0, 1, 5, 6, 9, 10, 11] (fun m vs H => ∃ k, k ≤ (takeT v l).1.length ∧ m = (takeT v l).1.length - k ∧ H = [] ∧ vs = [ints v, txnsA l, txnsA (takeT v l).1, ints (takeT v l).2, i64 i, .bool (((takeT v l).1.take k).any fun x => decide (dotOf x = dotOf l[i])), i64 k]) rfl ?_ ?_
            · exact Canon.mk [] rfl ⟨(takeT v l).1.length, 0, Nat.zero_le _, rfl, rfl, rfl⟩
            · rintro m vs H ⟨k, hk, rfl, rfl, rfl⟩
              by_cases hkl : k < (takeT v l).1.length
              · have key : ((takeT v l).1.take (k + 1)).any (fun x => decide (dotOf x = dotOf l[i])) = (((takeT v l).1.take k).any (fun x => decide (dotOf x = dotOf l[i])) || decide (dotOf (takeT v l).1[k] = dotOf l[i])) := by
                  rw [List.take_succ_eq_append_getElem hkl, List.any_append]; simp
                have fin : ∀ b, b = ((takeT v l).1.take (k + 1)).any (fun x => decide (dotOf x = dotOf l[i])) → ∃ m', m' < (takeT v l).1.length - k ∧ ∃ k', k' ≤ (takeT v l).1.length ∧ m' = (takeT v l).1.length - k' ∧ ([] : List Blk) = [] ∧
                    [ints v, txnsA l, txnsA (takeT v l).1, ints (takeT v l).2, i64 i, .bool b, i64 ((k + 1 : Nat) : Int)] = [ints v, txnsA l, txnsA (takeT v l).1, ints (takeT v l).2, i64 i, .bool (((takeT v l).1.take k').any fun x => decide (dotOf x = dotOf l[i])), i64 k'] := fun b hb =>
                  ⟨(takeT v l).1.length - (k + 1), by omega, k + 1, by omega, rfl, rfl, by rw [hb]⟩
                generalize hT : ((takeT v l).1.take k).any (fun x => decide (dotOf x = dotOf l[i])) = T at *
                cases T with
                | true => refine ND.yes (by (simp only [List.length_map, List.length_append, List.length_replicate, List.length_cons, List.length_nil, List.length_take, List.length_drop]; omega)) ?_
                          refine NP.mk (by kernel_rfl) ?_
                          apply NDr.pure
                          · exact ⟨rfl, rfl⟩
                          apply NDr.pure
                          · exact ⟨rfl, rfl⟩
                          apply NDr.pure
                          · exact ⟨rfl, rfl⟩
                          apply NDr.pure
                          · exact ⟨rfl, rfl⟩
                          refine NP.mk (by kernel_rfl) ?_
                          refine NW.i64 (by omega) (by omega) ?_
                          exact (Canon.mk [] rfl (fin _ (by rw [key]; rfl)))
                | false => refine ND.yes (by (simp only [List.length_map, List.length_append, List.length_replicate, List.length_cons, List.length_nil, List.length_take, List.length_drop]; omega)) ?_
                           refine NP.mk (by kernel_rfl) ?_
                           apply NDr.pure
                           · exact ⟨rfl, rfl⟩
                           apply NDr.pure
                           · exact ⟨rfl, rfl⟩
                           apply NDr.pure
                           · exact ⟨rfl, rfl⟩
                           apply NDr.pure
                           · exact ⟨rfl, rfl⟩
                           apply NDr.pure
                           · refine NP.mk (by omega) ?_
                             refine NG.mapN (by omega) ?_
                             exact ⟨rfl, rfl⟩
                           apply NDr.pure
                           · exact ⟨rfl, rfl⟩
                           apply NDr.pure
                           · exact ⟨rfl, rfl⟩
                           apply NDr.pure
                           · exact ⟨rfl, rfl⟩
                           apply NDr.pure
                           · exact ⟨rfl, rfl⟩
                           apply NDr.pure
                           · refine NP.mk (by omega) ?_
                             refine NG.mapN (by omega) ?_
                             exact ⟨rfl, rfl⟩
                           apply NDr.pure
                           · exact ⟨rfl, rfl⟩
                           apply NDr.pure
                           · exact ⟨rfl, rfl⟩
                           apply NDr.pure
                           · exact NB.det
                           apply NDr.pure
                           · exact ⟨rfl, rfl⟩
                           refine NB.mk (fun hk3 => ?_) (fun hk3 => ?_)
                           · apply NDr.pure
                             · exact ⟨rfl, rfl⟩
                             refine NB.yes (by assumption) ?_
                             apply NDr.pure
                             · exact ⟨rfl, rfl⟩
                             refine NB.yes (by assumption) ?_
                             apply NDr.pure
                             · refine NP.mk (by omega) ?_
                               refine NG.mapN (by omega) ?_
                               exact ⟨rfl, rfl⟩
                             refine NB.yes (by assumption) ?_
                             apply NDr.pure
                             · exact ⟨rfl, rfl⟩
                             refine NB.yes (by assumption) ?_
                             apply NDr.pure
                             · exact ⟨rfl, rfl⟩
                             refine NB.yes (by assumption) ?_
                             apply NDr.pure
                             · exact ⟨rfl, rfl⟩
                             refine NB.yes (by assumption) ?_
                             apply NDr.pure
                             · exact ⟨rfl, rfl⟩
                             refine NB.yes (by assumption) ?_
                             apply NDr.pure
                             · refine NP.mk (by omega) ?_
                               refine NG.mapN (by omega) ?_
                               exact ⟨rfl, rfl⟩
                             refine NB.yes (by assumption) ?_
                             apply NDr.pure
                             · exact ⟨rfl, rfl⟩
                             refine NB.yes (by assumption) ?_
                             apply NDr.pure
                             · exact ⟨rfl, rfl⟩
                             refine NB.yes (by assumption) ?_
                             apply NDr.pure
                             · exact NB.det
                             apply NDr.pure
                             · refine NB.yes (by assumption) ?_
                               exact ⟨rfl, rfl⟩
                             apply NDr.pure
                             · exact ⟨rfl, rfl⟩
                             apply NDr.pure
                             · exact ⟨rfl, rfl⟩
                             refine NP.mk (by kernel_rfl) ?_
                             refine NW.i64 (by omega) (by omega) ?_
                             exact (Canon.mk [] rfl (fin _ (by rw [key]; simp [dotOf, *])))
                           refine NB.no (by assumption) ?_
                           refine NB.no (by assumption) ?_
                           refine NB.no (by assumption) ?_
                           refine NB.no (by assumption) ?_
                           refine NB.no (by assumption) ?_
                           refine NB.no (by assumption) ?_
                           refine NB.no (by assumption) ?_
                           refine NB.no (by assumption) ?_
                           refine NB.no (by assumption) ?_
                           refine NB.no (by assumption) ?_
                           apply NDr.pure
                           · refine NB.no (by assumption) ?_
                             exact ⟨rfl, rfl⟩
                           apply NDr.pure
                           · exact ⟨rfl, rfl⟩
                           apply NDr.pure
                           · exact ⟨rfl, rfl⟩
                           refine NP.mk (by kernel_rfl) ?_
                           refine NW.i64 (by omega) (by omega) ?_
                           exact (Canon.mk [] rfl (fin _ (by rw [key]; simp [dotOf, *])))
              · rw [List.take_of_length_le (by omega)]
                cases hT : (takeT v l).1.any (fun x => decide (dotOf x = dotOf l[i])) with
                | true =>
                  refine ND.no (by (simp only [List.length_map, List.length_append, List.length_replicate, List.length_cons, List.length_nil, List.length_take, List.length_drop]; omega)) ?_
                  refine NW.i64 (by omega) (by omega) ?_
                  exact Canon.mk [] rfl ⟨l.length - (i + 1), by omega, i + 1, by omega, rfl, rfl, rfl⟩
                | false =>
                  have hrd : ready (takeT v l).2 l[i] = false := by
                    rcases List.mem_append.1 (hp.mem_iff.1 (List.getElem_mem hil)) with h | h
                    · rw [List.any_eq_false] at hT
                      have := hT _ h
                      simp at this
                    · exact hr _ h
                  have b2 := ready_walk (takeT v l).2 l[i] (by omega) (by have := hlw.2.1; omega) hlw.1
                  rw [hrd] at b2
                  refine ND.no (by (simp only [List.length_map, List.length_append, List.length_replicate, List.length_cons, List.length_nil, List.length_take, List.length_drop]; omega)) ?_
                  refine NP.mk (by omega) ?_
                  refine NG.mapN (by omega) ?_
                  refine NCall.call (b2) rfl rfl ?_
                  refine NW.i64 (by omega) (by omega) ?_
                  exact Canon.mk [] rfl ⟨l.length - (i + 1), by omega, i + 1, by omega, rfl, rfl, rfl⟩
          · have b1 := within7_walk v (takeT v l).2 (by omega) (by omega)
            rw [(vwithin_iff v (takeT v l).2).2 (by rw [takeT_nexts]; exact nexts_mono hch)] at b1
            refine ND.no (by (simp only [List.length_map, List.length_append, List.length_replicate, List.length_cons, List.length_nil, List.length_take, List.length_drop]; omega)) ?_
            refine ND.yes (by (simp only [List.length_map, List.length_append, List.length_replicate, List.length_cons, List.length_nil, List.length_take, List.length_drop]; omega)) ?_
            refine NCall.call (b1) rfl rfl ?_
            exact NRet.mk [] rfl ⟨.refl _, rfl⟩
      | true =>
        rw [h2] at s2
        refine NCall.call (awake14) rfl rfl ?_
        refine ND.no (by (simp only [List.length_map, List.length_append, List.length_replicate, List.length_cons, List.length_nil, List.length_take, List.length_drop]; omega)) ?_
        refine NCall.call (s1) rfl rfl ?_
        refine NCall.call (s2) rfl rfl ?_
        exact NRet.mk [] rfl ⟨.refl _, rfl⟩
    | false =>
      rw [h1] at s1
      refine NCall.call (awake14) rfl rfl ?_
      refine ND.no (by (simp only [List.length_map, List.length_append, List.length_replicate, List.length_cons, List.length_nil, List.length_take, List.length_drop]; omega)) ?_
      refine NCall.call (s1) rfl rfl ?_
      exact NRet.mk [] rfl ⟨.refl _, rfl⟩
  · refine NCall.call (awake14) rfl rfl ?_
    refine ND.yes (by (simp only [List.length_map, List.length_append, List.length_replicate, List.length_cons, List.length_nil, List.length_take, List.length_drop]; omega)) ?_
    exact NRet.mk [] rfl ⟨.refl _, rfl⟩
def rot (l : List Txn) (r : Nat) : List Txn := l.drop r ++ l.take r
theorem rot_perm (l : List Txn) (r : Nat) : (rot l r).reverse.Perm l := by
  refine (List.reverse_perm _).trans ?_
  unfold rot
  refine List.perm_append_comm.trans ?_
  rw [List.take_append_drop]
theorem rot_len {l : List Txn} {r : Nat} : (rot l r).reverse.length = l.length := (rot_perm l r).length_eq
theorem rot_get {l : List Txn} {r q : Nat} (hr : r < l.length) (hq : q < l.length) : (rot l r).reverse[q]'(by rw [rot_len]; exact hq) = l[(l.length - 1 - q + r) % l.length]'(Nat.mod_lt _ (by omega)) := by
  rw [List.getElem_reverse]
  have hl : (rot l r).length = l.length := by have := rot_len (l := l) (r := r); simpa using this
  unfold rot
  rw [List.getElem_append]
  split
  · rename_i h
    rw [List.getElem_drop]
    simp only [List.length_drop, List.length_append, List.length_take] at h ⊢
    congr 1
    rw [Nat.mod_eq_of_lt (by omega)]; omega
  · rename_i h
    rw [List.getElem_take]
    simp only [List.length_drop, List.length_append, List.length_take] at h ⊢
    congr 1
    rw [Nat.mod_eq_sub_mod (by omega), Nat.mod_eq_of_lt (by omega)]; omega
theorem orderAny_walk (v : List Int) (l : List Txn) (turn : Int) (hv : v.length ≤ reachBytes) (hl : l.length ≤ reachBytes) (hx : ∀ x ∈ l, okTxn x) : ACalls Try.prog Nm.law14_OrderAny [ints v, txnsA l, i64 turn] [] (.bool true) [] := by
  refine ACalls_of tab (dr_snd tab mixed) Nm.law14_OrderAny_h rfl (by kernel_rfl) (Nat.le_of_ble_eq_true rfl) rfl ?_
  have hv := okV hv
  have hl' := reach_lt hl
  have s1 := short13_walk l (by omega) hx
  have s2 := twice14_walk l
  by_cases h0 : v.length ≤ 60
  · cases h1 : shortT l with
    | true =>
      rw [h1] at s1
      obtain ⟨hl, hs⟩ := shortT_sm h1 hx
      have s2 := s2 (by omega)
      cases h2 : twice l with
      | false =>
        rw [h2] at s2
        refine NCall.call (awake14) rfl rfl ?_
        refine ND.no (by (simp only [List.length_map, List.length_append, List.length_replicate, List.length_cons, List.length_nil, List.length_take, List.length_drop]; omega)) ?_
        refine NCall.call (s1) rfl rfl ?_
        refine NCall.call (s2) rfl rfl ?_
        refine NW.i64 (by (simp only [List.length_map, List.length_append, List.length_replicate, List.length_cons, List.length_nil, List.length_take, List.length_drop]; omega)) (by (simp only [List.length_map, List.length_append, List.length_replicate, List.length_cons, List.length_nil, List.length_take, List.length_drop]; omega)) ?_
        have hwl : IntKind.wrap .u64 ((l.map txnA).length : Int) = l.length := by rw [List.length_map, wrap_u64]; omega
        obtain ⟨R, hR⟩ : ∃ R, R = (IntKind.wrap .u64 turn).tmod (IntKind.wrap .u64 ((l.map txnA).length : Int)) := ⟨_, rfl⟩
        have hwt : 0 ≤ IntKind.wrap .u64 turn := by rw [wrap_u64]; omega
        have hR0 : 0 < l.length → 0 ≤ R ∧ R < l.length := fun h => by
          rw [hR, hwl]
          exact ⟨Int.tmod_nonneg _ hwt, Int.tmod_lt_of_pos _ (by omega)⟩
        refine NLoop.mk [(7, .agg 4)] [0, 1, 2, 7, 8] (fun m vs H => ∃ (q : Nat) (i : Int), q ≤ l.length ∧ m = l.length - q ∧ i = (l.length : Int) - 1 - q ∧ H = [.row .vrow (.agg 4) (((rot l (R.toNat)).reverse.take q).map txnA)] ∧ vs = [ints v, txnsA l, i64 turn, .own 0 0 (((rot l (R.toNat)).reverse.take q).map txnA).length, i64 i]) rfl ?_ ?_
        · exact Canon.mk [0] rfl ⟨l.length, 0, _, Nat.zero_le _, rfl, rfl, by simp, by simp [ints, txnsA, i64]⟩
        · rintro m vs H ⟨q, i, hq, rfl, hi, rfl, rfl⟩
          have htl : ((rot l R.toNat).reverse.take q).length = q := by rw [List.length_take, rot_len]; omega
          by_cases hql : q < l.length
          · obtain ⟨hR1, hR2⟩ := hR0 (by omega)
            have hn : ((l.map txnA).length : Int) ≠ 0 := by rw [List.length_map]; omega
            have hidx : (Int.tmod (i + R) ((l.map txnA).length : Int)).toNat = (l.length - 1 - q + R.toNat) % l.length := by
              rw [List.length_map, show i + R = ((l.length - 1 - q + R.toNat : Nat) : Int) by omega, ← Int.ofNat_tmod, Int.toNat_natCast]
            rw [hR] at hR1 hR2 hidx
            have hidl : (Int.tmod (i + (IntKind.wrap .u64 turn).tmod (IntKind.wrap .u64 ((l.map txnA).length : Int))) ((l.map txnA).length : Int)).toNat < l.length := by rw [hidx]; exact Nat.mod_lt _ (by omega)
            have hnn : 0 ≤ Int.tmod (i + (IntKind.wrap .u64 turn).tmod (IntKind.wrap .u64 ((l.map txnA).length : Int))) ((l.map txnA).length : Int) := Int.tmod_nonneg _ (by omega)
            have hg := rot_get (l := l) (r := R.toNat) (q := q) (by rw [← hR] at hR1 hR2; omega) hql
            have hx2 : l[(Int.tmod (i + (IntKind.wrap .u64 turn).tmod (IntKind.wrap .u64 ((l.map txnA).length : Int))) ((l.map txnA).length : Int)).toNat] = (rot l R.toNat).reverse[q]'(by rw [rot_len]; exact hql) := by
              rw [hg]
              congr 1
              rw [hidx, ← hR]
            refine ND.yes (by omega) ?_
            refine NW.mk _ rfl ?_
            refine NW.mk _ rfl ?_
            refine NP.mk (by omega) ?_
            refine NW.i64 (by omega) (by omega) ?_
            refine NW.i64 (by omega) (by omega) ?_
            refine NP.mk (by omega) ?_
            refine NP.mk (by omega) ?_
            refine NG.map (by omega) ?_
            refine NFz.own ?_
            refine NApp.endA rfl (by simp; omega) ?_
            refine NW.i64 (by omega) (by omega) ?_
            refine Canon.mk [1] rfl ⟨l.length - (q + 1), by omega, q + 1, i - 1, by omega, rfl, ?_, ?_, ?_⟩
            rotate_left
            · rw [snocMap txnA _ (by rw [rot_len]; exact hql), ← hx2]; rfl
            · rw [snocMap txnA _ (by rw [rot_len]; exact hql), ← hx2]; rfl
            · omega
          · have hq' : q = l.length := by omega
            have hperm := rot_perm l R.toNat
            have e1 : (rot l R.toNat).reverse.take q = (rot l R.toNat).reverse := List.take_of_length_le (by rw [rot_len]; omega)
            rw [e1]
            have hol := rot_len (l := l) (r := R.toNat)
            generalize (rot l R.toNat).reverse = other at *
            have hnd : (l.map dotOf).Nodup := by
              unfold twice at h2
              simpa using h2
            have hso : ∀ t ∈ other, smTxn t := fun t ht => hs t (hperm.mem_iff.1 ht)
            obtain ⟨p1, p2⟩ := take_any (v := v) (dots_inj hnd) (fun t => hperm.mem_iff.symm) (take_nodup (nodup_of_dots hnd)) (take_nodup (hperm.nodup_iff.2 (nodup_of_dots hnd)))
            have a3 := take_walk v l (by omega) (by omega) hs
            have a4 := take_walk v other (by omega) (by omega) hso
            have hsa := takeT_sm (v := v) hs
            have hal := takeT_len v l
            have hav := takeT_vlen v l
            have hbv := takeT_vlen v other
            have a5 := same7_walk (takeT v l).2 (takeT v other).2 (by omega) (by omega)
            rw [decide_eq_true (trim_ext _ _ p2)] at a5
            have hlen := p1.length_eq
            generalize (takeT v l).1 = A at *
            generalize (takeT v other).1 = B at *
            refine ND.no (by omega) ?_
            refine NCall.call (a3) rfl rfl ?_
            refine NCall.eq (by simp only [List.length_map] <;> exact rfl) ?_
            refine NCall.roA [0] ?_
            rw [(tlm _ _)]
            refine NCall.call (a4) rfl rfl ?_
            refine ND.yes (by (simp only [List.length_map, List.length_append, List.length_replicate, List.length_cons, List.length_nil, List.length_take, List.length_drop]; omega)) ?_
            refine NCall.call (a5) rfl rfl ?_
            refine NLoop.mk [] [9, 11, 13] (fun m vs H => ∃ i, i ≤ A.length ∧ m = A.length - i ∧ H = [] ∧ vs = [txnsA A, txnsA B, i64 i]) rfl ?_ ?_
            · exact Canon.mk [] rfl ⟨A.length, 0, Nat.zero_le _, rfl, rfl, rfl⟩
            · rintro m vs H ⟨i, hi, rfl, rfl, rfl⟩
              by_cases hil : i < A.length
              · refine ND.yes (by (simp only [List.length_map, List.length_append, List.length_replicate, List.length_cons, List.length_nil, List.length_take, List.length_drop]; omega)) ?_
                refine NLoop.mk [] [9, 11, 13, 14, 15] (fun m vs H => ∃ k, k ≤ B.length ∧ m = B.length - k ∧ H = [] ∧ vs = [txnsA A, txnsA B, i64 i, .bool ((B.take k).any fun x => decide (A[i] = x)), i64 k]) rfl ?_ ?_
                · exact Canon.mk [] rfl ⟨B.length, 0, Nat.zero_le _, rfl, rfl, rfl⟩
                · rintro m vs H ⟨k, hk, rfl, rfl, rfl⟩
                  by_cases hkl : k < B.length
                  · have key : (B.take (k + 1)).any (fun x => decide (A[i] = x)) = ((B.take k).any (fun x => decide (A[i] = x)) || decide (A[i] = B[k])) := by
                      rw [List.take_succ_eq_append_getElem hkl, List.any_append]; simp
                    have fin : ∀ b, b = (B.take (k + 1)).any (fun x => decide (A[i] = x)) → ∃ m', m' < B.length - k ∧ ∃ k', k' ≤ B.length ∧ m' = B.length - k' ∧ ([] : List Blk) = [] ∧
                        [txnsA A, txnsA B, i64 i, .bool b, i64 ((k + 1 : Nat) : Int)] = [txnsA A, txnsA B, i64 i, .bool ((B.take k').any fun x => decide (A[i] = x)), i64 k'] := fun b hb =>
                      ⟨B.length - (k + 1), by omega, k + 1, by omega, rfl, rfl, by rw [hb]⟩
                    have b1 := same13_walk A[i] B[k] (hsa _ (List.getElem_mem hil))
                    generalize hT : (B.take k).any (fun x => decide (A[i] = x)) = T at *
                    cases T with
                    | true => refine ND.yes (by (simp only [List.length_map, List.length_append, List.length_replicate, List.length_cons, List.length_nil, List.length_take, List.length_drop]; omega)) ?_
                              refine NP.mk (by kernel_rfl) ?_
                              apply NDr.pure
                              · exact ⟨rfl, rfl⟩
                              apply NDr.pure
                              · exact ⟨rfl, rfl⟩
                              apply NDr.pure
                              · exact ⟨rfl, rfl⟩
                              apply NDr.pure
                              · exact ⟨rfl, rfl⟩
                              refine NP.mk (by kernel_rfl) ?_
                              refine NW.i64 (by omega) (by omega) ?_
                              exact (Canon.mk [] rfl (fin _ (by rw [key]; rfl)))
                    | false => refine ND.yes (by (simp only [List.length_map, List.length_append, List.length_replicate, List.length_cons, List.length_nil, List.length_take, List.length_drop]; omega)) ?_
                               refine NP.mk (by kernel_rfl) ?_
                               apply NDr.pure
                               · exact ⟨rfl, rfl⟩
                               apply NDr.pure
                               · exact ⟨rfl, rfl⟩
                               apply NDr.pure
                               · exact ⟨rfl, rfl⟩
                               apply NDr.pure
                               · exact ⟨rfl, rfl⟩
                               apply NDr.pure
                               · refine NP.mk (by omega) ?_
                                 refine NG.mapN (by omega) ?_
                                 exact ⟨rfl, rfl⟩
                               apply NDr.pure
                               · exact ⟨rfl, rfl⟩
                               apply NDr.pure
                               · exact ⟨rfl, rfl⟩
                               apply NDr.pure
                               · exact ⟨rfl, rfl⟩
                               apply NDr.pure
                               · refine NP.mk (by omega) ?_
                                 refine NG.mapN (by omega) ?_
                                 exact ⟨rfl, rfl⟩
                               apply NDr.pure
                               · exact ⟨rfl, rfl⟩
                               apply NDr.pure
                               · refine NCall.call (b1) rfl rfl ?_
                                 exact ⟨rfl, rfl⟩
                               apply NDr.pure
                               · exact ⟨rfl, rfl⟩
                               apply NDr.pure
                               · exact ⟨rfl, rfl⟩
                               refine NP.mk (by kernel_rfl) ?_
                               refine NW.i64 (by omega) (by omega) ?_
                               exact (Canon.mk [] rfl (fin _ (by rw [key]; simp [*])))
                  · rw [List.take_of_length_le (by omega)]
                    rw [List.any_eq_true.2 ⟨A[i], p1.mem_iff.1 (List.getElem_mem hil), by simp⟩]
                    refine ND.no (by (simp only [List.length_map, List.length_append, List.length_replicate, List.length_cons, List.length_nil, List.length_take, List.length_drop]; omega)) ?_
                    refine NW.i64 (by omega) (by omega) ?_
                    exact Canon.mk [] rfl ⟨A.length - (i + 1), by omega, i + 1, by omega, rfl, rfl, rfl⟩
              · refine ND.no (by (simp only [List.length_map, List.length_append, List.length_replicate, List.length_cons, List.length_nil, List.length_take, List.length_drop]; omega)) ?_
                exact NRet.mk [] rfl ⟨.refl _, rfl⟩
      | true =>
        rw [h2] at s2
        refine NCall.call (awake14) rfl rfl ?_
        refine ND.no (by (simp only [List.length_map, List.length_append, List.length_replicate, List.length_cons, List.length_nil, List.length_take, List.length_drop]; omega)) ?_
        refine NCall.call (s1) rfl rfl ?_
        refine NCall.call (s2) rfl rfl ?_
        exact NRet.mk [] rfl ⟨.refl _, rfl⟩
    | false =>
      rw [h1] at s1
      refine NCall.call (awake14) rfl rfl ?_
      refine ND.no (by (simp only [List.length_map, List.length_append, List.length_replicate, List.length_cons, List.length_nil, List.length_take, List.length_drop]; omega)) ?_
      refine NCall.call (s1) rfl rfl ?_
      exact NRet.mk [] rfl ⟨.refl _, rfl⟩
  · refine NCall.call (awake14) rfl rfl ?_
    refine ND.yes (by (simp only [List.length_map, List.length_append, List.length_replicate, List.length_cons, List.length_nil, List.length_take, List.length_drop]; omega)) ?_
    exact NRet.mk [] rfl ⟨.refl _, rfl⟩
end Go.Bv
