/- Part of the lift: an abstract walk of the program's code, proved sound, and what it shows of this program. -/
import Derived.Test.YtkehoabgejdpgaaSvQueue
namespace Go.Bv
set_option linter.unusedSimpArgs false
set_option linter.unusedVariables false
set_option maxHeartbeats 4000000
open Go Go.Proofs

theorem smQ_heard {q : Queue} {v : List Int} (h : smQ q) : smQ (heardQ q v) := ⟨Nat.le_trans (leftB_len _ _) h.1, fun t ht => h.2 t (List.mem_filter.1 ht).1⟩
theorem smQ_push {q : Queue} {t : Txn} (h : smQ q) (ht : smTxn t) (hl : q.list.length < 2 ^ 30) : smQ (pushQ q t) := by
  unfold pushQ
  split
  · refine ⟨by simp; omega, fun x hx => ?_⟩
    rcases List.mem_append.1 hx with hx | hx
    · exact h.2 x hx
    · rw [List.mem_singleton.1 hx]; exact ht
  · exact ⟨by simp, by simp⟩
theorem sameQ {q : Queue} (h : smQ q) : ACalls Try.prog Nm.ref20_Same [queueA q, queueA q] [] (.bool true) [] := by
  have := same20_walk q q h
  rwa [decide_eq_true rfl] at this
theorem awake20 : ACalls Try.prog Nm.law20_awake [] [] (.bool true) [] := by
  refine ACalls_of tab (dr_snd tab mixed) Nm.law20_awake_h rfl (by kernel_rfl) (Nat.le_of_ble_eq_true rfl) rfl ?_
  have h1 := newQ_walk 1
  rw [if_pos (by decide)] at h1
  have s1 : smTxn ⟨0, 1, [], []⟩ := by simp [smTxn, okInt]
  have s2 : smTxn ⟨0, 2, [1], []⟩ := by simp [smTxn, okInt]
  have h2 := push_walk ⟨1, []⟩ ⟨0, 1, [], []⟩ ⟨by simp, by simp⟩ s1
  rw [show pushC ⟨1, []⟩ ⟨0, 1, [], []⟩ = 0 by decide, show pushQ ⟨1, []⟩ ⟨0, 1, [], []⟩ = ⟨1, [⟨0, 1, [], []⟩]⟩ by decide] at h2
  have h3 := push_walk ⟨1, [⟨0, 1, [], []⟩]⟩ ⟨0, 2, [1], []⟩ ⟨by simp, by simpa using s1⟩ s2
  rw [show pushC ⟨1, [⟨0, 1, [], []⟩]⟩ ⟨0, 2, [1], []⟩ = 6 by decide, show pushQ ⟨1, [⟨0, 1, [], []⟩]⟩ ⟨0, 2, [1], []⟩ = ⟨0, []⟩ by decide] at h3
  have h4 := heardQ_list ⟨1, [⟨0, 1, [], []⟩]⟩ [1] ⟨by simp, by simpa using s1⟩ (by simp)
  rw [show heardQ ⟨1, [⟨0, 1, [], []⟩]⟩ [1] = ⟨1, []⟩ by decide] at h4
  refine NCall.call (h1) rfl rfl ?_
  refine NCall.call (ACalls.args (h2) (by repeat (first | exact LeA.refl _ | exact LeA.nils _ | refine LeA.agg ?_ | refine LeA.list _ ?_ | exact LeAs.nil | refine LeAs.cons ?_ ?_))) rfl rfl ?_
  refine NCall.call (ACalls.args (h3) (by repeat (first | exact LeA.refl _ | exact LeA.nils _ | refine LeA.agg ?_ | refine LeA.list _ ?_ | exact LeAs.nil | refine LeAs.cons ?_ ?_))) rfl rfl ?_
  refine ND.yes (by omega) ?_
  refine ND.yes (by omega) ?_
  refine ND.yes (by omega) ?_
  refine NCall.call (h4) rfl rfl ?_
  refine ND.yes (by rfl) ?_
  exact NRet.mk [] rfl ⟨.refl _, rfl⟩
theorem queueHeard_walk (q : Queue) (v w : List Int) (hq : okQueue q) (hv : v.length ≤ reachBytes) (hw : w.length ≤ reachBytes) : ACalls Try.prog Nm.law20_QueueHeard [queueA q, ints v, ints w] [] (.bool true) [] := by
  refine ACalls_of tab (dr_snd tab mixed) Nm.law20_QueueHeard_h rfl (by kernel_rfl) (Nat.le_of_ble_eq_true rfl) rfl ?_
  have hv := okV hv
  have hw := okV hw
  have hl' := reach_lt hq.2.1
  have s1 := short13_walk q.list (by omega) hq.2.2
  cases h1 : shortT q.list with
  | true =>
    rw [h1] at s1
    obtain ⟨hl, hs⟩ := shortT_sm h1 hq.2.2
    have sq : smQ q := ⟨by omega, hs⟩
    by_cases hv0 : v.length ≤ 60
    · by_cases hw0 : w.length ≤ 60
      · have a1 := heardQ_list q v sq (by omega)
        have a2 := heardQ_list (heardQ q v) w (smQ_heard sq) (by omega)
        have a3 := heardQ_list q w sq (by omega)
        have a4 := heardQ_list (heardQ q w) v (smQ_heard sq) (by omega)
        have hjl := join_len v w
        have a5 := vecJoin_walk v w (by omega) (by omega)
        have a6 := heardQ_list q (join v w) sq (by omega)
        have a7 := heardQ_list q [] sq (by simp)
        have e1 : heardQ (heardQ q w) v = heardQ (heardQ q v) w := by simp only [heardQ]; rw [leftB_comm]
        have e2 : heardQ q (join v w) = heardQ (heardQ q v) w := by simp only [heardQ]; rw [leftB_join]
        have e3 : heardQ q [] = q := by unfold heardQ; rw [leftB_nil]
        rw [e1] at a4
        rw [e2] at a6
        rw [e3] at a7
        have b1 := sameQ (smQ_heard (v := w) (smQ_heard (v := v) sq))
        have b2 := sameQ sq
        refine NCall.call (awake20) rfl rfl ?_
        refine NCall.call (s1) rfl rfl ?_
        refine ND.no (by (simp only [List.length_map, List.length_append, List.length_replicate, List.length_cons, List.length_nil, List.length_take, List.length_drop]; omega)) ?_
        refine ND.no (by (simp only [List.length_map, List.length_append, List.length_replicate, List.length_cons, List.length_nil, List.length_take, List.length_drop]; omega)) ?_
        refine NCall.call (a1) rfl rfl ?_
        refine NCall.call (a2) rfl rfl ?_
        refine NP.mk (by kernel_rfl) ?_
        apply NDr.rd [1]
        · intro fH TH
          exact ⟨rfl, rfl⟩
        apply NDr.rd [0]
        · intro fH TH
          exact ⟨rfl, rfl⟩
        apply NDr.pure
        · exact ⟨rfl, rfl⟩
        apply NDr.pure
        · refine NCall.call (a3) rfl rfl ?_
          exact ⟨rfl, rfl⟩
        apply NDr.pure
        · exact ⟨rfl, rfl⟩
        apply NDr.pure
        · refine NCall.call (a4) rfl rfl ?_
          exact ⟨rfl, rfl⟩
        apply NDr.pure
        · refine NCall.call (b1) rfl rfl ?_
          exact ⟨rfl, rfl⟩
        apply NDr.pure
        · exact ⟨rfl, rfl⟩
        apply NDr.rd [1]
        · intro fH TH
          exact ⟨rfl, rfl⟩
        apply NDr.rd [0]
        · intro fH TH
          exact ⟨rfl, rfl⟩
        apply NDr.pure
        · exact ⟨rfl, rfl⟩
        apply NDr.pure
        · exact ⟨rfl, rfl⟩
        apply NDr.pure
        · refine NCall.call (a5) rfl rfl ?_
          exact ⟨rfl, rfl⟩
        apply NDr.pure
        · refine NCall.call (a6) rfl rfl ?_
          exact ⟨rfl, rfl⟩
        apply NDr.pure
        · refine NCall.call (b1) rfl rfl ?_
          exact ⟨rfl, rfl⟩
        apply NDr.pure
        · exact ⟨rfl, rfl⟩
        apply NDr.pure
        · exact ⟨rfl, rfl⟩
        apply NDr.rd [0]
        · intro fH TH
          exact ⟨rfl, rfl⟩
        apply NDr.pure
        · refine NCall.call (ACalls.args (a7) (by repeat (first | exact LeA.refl _ | exact LeA.nils _ | refine LeA.agg ?_ | refine LeA.list _ ?_ | exact LeAs.nil | refine LeAs.cons ?_ ?_))) rfl rfl ?_
          exact ⟨rfl, rfl⟩
        apply NDr.rd [0]
        · intro fH TH
          exact ⟨rfl, rfl⟩
        apply NDr.pure
        · refine NCall.call (b2) rfl rfl ?_
          exact ⟨rfl, rfl⟩
        apply NDr.pure
        · exact ⟨rfl, rfl⟩
        apply NDr.pure
        · exact ⟨rfl, rfl⟩
        refine NP.mk (by kernel_rfl) ?_
        exact NRet.mk [] rfl ⟨.refl _, rfl⟩
      · refine NCall.call (awake20) rfl rfl ?_
        refine NCall.call (s1) rfl rfl ?_
        refine ND.no (by (simp only [List.length_map, List.length_append, List.length_replicate, List.length_cons, List.length_nil, List.length_take, List.length_drop]; omega)) ?_
        refine ND.yes (by (simp only [List.length_map, List.length_append, List.length_replicate, List.length_cons, List.length_nil, List.length_take, List.length_drop]; omega)) ?_
        exact NRet.mk [] rfl ⟨.refl _, rfl⟩
    · refine NCall.call (awake20) rfl rfl ?_
      refine NCall.call (s1) rfl rfl ?_
      refine ND.yes (by (simp only [List.length_map, List.length_append, List.length_replicate, List.length_cons, List.length_nil, List.length_take, List.length_drop]; omega)) ?_
      exact NRet.mk [] rfl ⟨.refl _, rfl⟩
  | false =>
    rw [h1] at s1
    refine NCall.call (awake20) rfl rfl ?_
    refine NCall.call (s1) rfl rfl ?_
    exact NRet.mk [] rfl ⟨.refl _, rfl⟩
theorem queueAll_walk (q : Queue) (t : Txn) (v : List Int) (most : Int) (hq : okQueue q) (ht : okTxn t) (hv : v.length ≤ reachBytes) : ACalls Try.prog Nm.law20_QueueAll [queueA q, txnA t, ints v, i64 most] [] (.bool true) [] := by
  refine ACalls_of tab (dr_snd tab mixed) Nm.law20_QueueAll_h rfl (by kernel_rfl) (Nat.le_of_ble_eq_true rfl) rfl ?_
  have hv := okV hv
  have hl' := reach_lt hq.2.1
  have s1 := short13_walk q.list (by omega) hq.2.2
  have s2 := short13_walk [t] (by simp) (by simpa using ht)
  cases h1 : shortT q.list with
  | true =>
    rw [h1] at s1
    cases h2 : shortT [t] with
    | true =>
      rw [h2] at s2
      obtain ⟨hl, hs⟩ := shortT_sm h1 hq.2.2
      have hst := short1_sm h2 ht
      have sq : smQ q := ⟨by omega, hs⟩
      by_cases hv0 : v.length ≤ 60
      · have a0 := copy13_walk q.list (by omega) hs
        have a1 := newQ_walk most
        have a2 := push_walk q t sq hst
        have a3 := push20_walk q t sq hst
        have a4 := heardQ_list q v sq (by omega)
        have a5 := heard20_walk q v sq (by omega)
        have a6 := lastQ_walk q sq
        have b1 := sameQ (smQ_push (t := t) sq hst (by omega))
        have b2 := sameQ (smQ_heard (v := v) sq)
        have b3 := sameQ sq
        have b4 := sameQ (q := ⟨most, []⟩) ⟨by simp, by simp⟩
        have b5 := sameQ (q := ⟨0, []⟩) ⟨by simp, by simp⟩
        by_cases h0 : 0 < q.list.length
        · have e : q.list.getLast? = some q.list[q.list.length - 1] := by
            rw [List.getLast?_eq_getElem?, List.getElem?_eq_getElem (by omega)]
          have hil : (((q.list.map txnA).length : Int) - 1).toNat < q.list.length := by rw [List.length_map]; omega
          have ei : q.list[(((q.list.map txnA).length : Int) - 1).toNat] = q.list[q.list.length - 1] := by
            congr 1
            rw [List.length_map]; omega
          rw [e] at a6
          dsimp only at a6
          have c1 := same13_walk q.list[q.list.length - 1] q.list[(((q.list.map txnA).length : Int) - 1).toNat] (hs _ (List.getElem_mem _))
          rw [decide_eq_true ei.symm] at c1
          have hil2 : ((q.list.length : Int) - 1).toNat < q.list.length := by omega
          have ei2 : q.list[((q.list.length : Int) - 1).toNat] = q.list[q.list.length - 1] := by
            congr 1
            omega
          have c2 := same13_walk q.list[q.list.length - 1] q.list[((q.list.length : Int) - 1).toNat] (hs _ (List.getElem_mem _))
          rw [decide_eq_true ei2.symm] at c2
          by_cases hm : 0 ≤ most ∧ most ≤ 16
          · rw [if_pos hm] at a1
            refine NCall.call (awake20) rfl rfl ?_
            refine NCall.call (s1) rfl rfl ?_
            refine NCall.call (s2) rfl rfl ?_
            refine ND.no (by (simp only [List.length_map, List.length_append, List.length_replicate, List.length_cons, List.length_nil, List.length_take, List.length_drop]; omega)) ?_
            refine NP.mk (by kernel_rfl) ?_
            apply NDr.rd [0]
            · intro fH TH
              exact ⟨rfl, rfl⟩
            apply NDr.rd [0]
            · intro fH TH
              exact ⟨rfl, rfl⟩
            apply NDr.rd [0]
            · intro fH TH
              exact ⟨rfl, rfl⟩
            apply NDr.rd [0]
            · intro fH TH
              exact ⟨rfl, rfl⟩
            apply NDr.pure
            · refine NCall.call (a0) rfl rfl ?_
              exact ⟨rfl, rfl⟩
            apply NDr.pure
            · exact ⟨rfl, rfl⟩
            apply NDr.efw []
            · exact ⟨rfl, rfl⟩
            · repeat (first | exact True.intro | refine ⟨by first | exact rfl | exact True.intro, ?_⟩)
            apply NDr.efw [2]
            · exact ⟨rfl, rfl⟩
            · repeat (first | exact True.intro | refine ⟨by first | exact rfl | exact True.intro, ?_⟩)
            refine NP.mk (by kernel_rfl) ?_
            refine NCall.call (a1) rfl rfl ?_
            refine ND.no (by omega) ?_
            refine ND.no (by omega) ?_
            refine ND.yes (by omega) ?_
            refine NCall.call (ACalls.args (b4) (by repeat (first | exact LeA.refl _ | exact LeA.nils _ | refine LeA.agg ?_ | refine LeA.list _ ?_ | exact LeAs.nil | refine LeAs.cons ?_ ?_))) rfl rfl ?_
            refine NCall.call (a2) rfl rfl ?_
            refine NCall.call (a3) rfl rfl ?_
            refine NP.mk (by kernel_rfl) ?_
            apply NDr.pure
            · exact ⟨rfl, rfl⟩
            apply NDr.pure
            · exact ⟨rfl, rfl⟩
            apply NDr.pure
            · refine ND.yes (by omega) ?_
              exact ⟨rfl, rfl⟩
            apply NDr.pure
            · exact ⟨rfl, rfl⟩
            apply NDr.rd [4]
            · intro fH TH
              exact ⟨rfl, rfl⟩
            apply NDr.rd [5]
            · intro fH TH
              exact ⟨rfl, rfl⟩
            apply NDr.pure
            · refine NCall.call (b1) rfl rfl ?_
              exact ⟨rfl, rfl⟩
            apply NDr.pure
            · exact ⟨rfl, rfl⟩
            apply NDr.pure
            · exact ⟨rfl, rfl⟩
            apply NDr.pure
            · exact ⟨rfl, rfl⟩
            apply NDr.rd [2]
            · intro fH TH
              exact ⟨rfl, rfl⟩
            apply NDr.pure
            · exact ⟨rfl, rfl⟩
            apply NDr.pure
            · refine NCall.call (a4) rfl rfl ?_
              exact ⟨rfl, rfl⟩
            apply NDr.rd [0]
            · intro fH TH
              exact ⟨rfl, rfl⟩
            apply NDr.pure
            · exact ⟨rfl, rfl⟩
            apply NDr.pure
            · refine NCall.call (a5) rfl rfl ?_
              exact ⟨rfl, rfl⟩
            apply NDr.pure
            · refine NCall.call (b2) rfl rfl ?_
              exact ⟨rfl, rfl⟩
            apply NDr.pure
            · exact ⟨rfl, rfl⟩
            apply NDr.pure
            · exact ⟨rfl, rfl⟩
            refine NP.mk (by kernel_rfl) ?_
            refine NCall.call (a6) rfl rfl ?_
            refine ND.no (by (simp only [List.length_map, List.length_append, List.length_replicate, List.length_cons, List.length_nil, List.length_take, List.length_drop]; omega)) ?_
            refine NP.mk (by kernel_rfl) ?_
            apply NDr.pure
            · exact ⟨rfl, rfl⟩
            apply NDr.pure
            · exact ⟨rfl, rfl⟩
            apply NDr.rd [6]
            · intro fH TH
              exact ⟨rfl, rfl⟩
            apply NDr.rd [0]
            · intro fH TH
              exact ⟨rfl, rfl⟩
            apply NDr.rd [0]
            · intro fH TH
              exact ⟨rfl, rfl⟩
            apply NDr.rd [0]
            · intro fH TH
              exact ⟨rfl, rfl⟩
            apply NDr.rd [0]
            · intro fH TH
              exact ⟨rfl, rfl⟩
            apply NDr.pure
            · exact ⟨rfl, rfl⟩
            apply NDr.pure
            · refine NW.i64 (by omega) (by omega) ?_
              exact ⟨rfl, rfl⟩
            apply NDr.pure
            · refine NP.mk (by (simp only [List.length_map, List.length_append, List.length_replicate, List.length_cons, List.length_nil, List.length_take, List.length_drop]; omega)) ?_
              refine NG.map (by omega) ?_
              exact ⟨rfl, rfl⟩
            apply NDr.pure
            · exact ⟨rfl, rfl⟩
            apply NDr.pure
            · refine NCall.eq (by simp only [List.length_map] <;> exact rfl) ?_
              refine NCall.call (c2) rfl rfl ?_
              exact ⟨rfl, rfl⟩
            apply NDr.pure
            · exact ⟨rfl, rfl⟩
            apply NDr.pure
            · exact ⟨rfl, rfl⟩
            apply NDr.rd [2]
            · intro fH TH
              exact ⟨rfl, rfl⟩
            apply NDr.rd [0]
            · intro fH TH
              exact ⟨rfl, rfl⟩
            apply NDr.pure
            · refine NCall.call (b3) rfl rfl ?_
              exact ⟨rfl, rfl⟩
            apply NDr.pure
            · exact ⟨rfl, rfl⟩
            apply NDr.pure
            · exact ⟨rfl, rfl⟩
            refine NP.mk (by kernel_rfl) ?_
            exact NRet.mk [] rfl ⟨.refl _, rfl⟩
          · rw [if_neg hm] at a1
            by_cases hm0 : most < 0
            · refine NCall.call (awake20) rfl rfl ?_
              refine NCall.call (s1) rfl rfl ?_
              refine NCall.call (s2) rfl rfl ?_
              refine ND.no (by (simp only [List.length_map, List.length_append, List.length_replicate, List.length_cons, List.length_nil, List.length_take, List.length_drop]; omega)) ?_
              refine NP.mk (by kernel_rfl) ?_
              apply NDr.rd [0]
              · intro fH TH
                exact ⟨rfl, rfl⟩
              apply NDr.rd [0]
              · intro fH TH
                exact ⟨rfl, rfl⟩
              apply NDr.rd [0]
              · intro fH TH
                exact ⟨rfl, rfl⟩
              apply NDr.rd [0]
              · intro fH TH
                exact ⟨rfl, rfl⟩
              apply NDr.pure
              · refine NCall.call (a0) rfl rfl ?_
                exact ⟨rfl, rfl⟩
              apply NDr.pure
              · exact ⟨rfl, rfl⟩
              apply NDr.efw []
              · exact ⟨rfl, rfl⟩
              · repeat (first | exact True.intro | refine ⟨by first | exact rfl | exact True.intro, ?_⟩)
              apply NDr.efw [2]
              · exact ⟨rfl, rfl⟩
              · repeat (first | exact True.intro | refine ⟨by first | exact rfl | exact True.intro, ?_⟩)
              refine NP.mk (by kernel_rfl) ?_
              refine NCall.call (a1) rfl rfl ?_
              refine ND.yes (by omega) ?_
              refine ND.yes (by omega) ?_
              refine NCall.call (ACalls.args (b5) (by repeat (first | exact LeA.refl _ | exact LeA.nils _ | refine LeA.agg ?_ | refine LeA.list _ ?_ | exact LeAs.nil | refine LeAs.cons ?_ ?_))) rfl rfl ?_
              refine NCall.call (a2) rfl rfl ?_
              refine NCall.call (a3) rfl rfl ?_
              refine NP.mk (by kernel_rfl) ?_
              apply NDr.pure
              · exact ⟨rfl, rfl⟩
              apply NDr.pure
              · exact ⟨rfl, rfl⟩
              apply NDr.pure
              · refine ND.yes (by omega) ?_
                exact ⟨rfl, rfl⟩
              apply NDr.pure
              · exact ⟨rfl, rfl⟩
              apply NDr.rd [4]
              · intro fH TH
                exact ⟨rfl, rfl⟩
              apply NDr.rd [5]
              · intro fH TH
                exact ⟨rfl, rfl⟩
              apply NDr.pure
              · refine NCall.call (b1) rfl rfl ?_
                exact ⟨rfl, rfl⟩
              apply NDr.pure
              · exact ⟨rfl, rfl⟩
              apply NDr.pure
              · exact ⟨rfl, rfl⟩
              apply NDr.pure
              · exact ⟨rfl, rfl⟩
              apply NDr.rd [2]
              · intro fH TH
                exact ⟨rfl, rfl⟩
              apply NDr.pure
              · exact ⟨rfl, rfl⟩
              apply NDr.pure
              · refine NCall.call (a4) rfl rfl ?_
                exact ⟨rfl, rfl⟩
              apply NDr.rd [0]
              · intro fH TH
                exact ⟨rfl, rfl⟩
              apply NDr.pure
              · exact ⟨rfl, rfl⟩
              apply NDr.pure
              · refine NCall.call (a5) rfl rfl ?_
                exact ⟨rfl, rfl⟩
              apply NDr.pure
              · refine NCall.call (b2) rfl rfl ?_
                exact ⟨rfl, rfl⟩
              apply NDr.pure
              · exact ⟨rfl, rfl⟩
              apply NDr.pure
              · exact ⟨rfl, rfl⟩
              refine NP.mk (by kernel_rfl) ?_
              refine NCall.call (a6) rfl rfl ?_
              refine ND.no (by (simp only [List.length_map, List.length_append, List.length_replicate, List.length_cons, List.length_nil, List.length_take, List.length_drop]; omega)) ?_
              refine NP.mk (by kernel_rfl) ?_
              apply NDr.pure
              · exact ⟨rfl, rfl⟩
              apply NDr.pure
              · exact ⟨rfl, rfl⟩
              apply NDr.rd [6]
              · intro fH TH
                exact ⟨rfl, rfl⟩
              apply NDr.rd [0]
              · intro fH TH
                exact ⟨rfl, rfl⟩
              apply NDr.rd [0]
              · intro fH TH
                exact ⟨rfl, rfl⟩
              apply NDr.rd [0]
              · intro fH TH
                exact ⟨rfl, rfl⟩
              apply NDr.rd [0]
              · intro fH TH
                exact ⟨rfl, rfl⟩
              apply NDr.pure
              · exact ⟨rfl, rfl⟩
              apply NDr.pure
              · refine NW.i64 (by omega) (by omega) ?_
                exact ⟨rfl, rfl⟩
              apply NDr.pure
              · refine NP.mk (by (simp only [List.length_map, List.length_append, List.length_replicate, List.length_cons, List.length_nil, List.length_take, List.length_drop]; omega)) ?_
                refine NG.map (by omega) ?_
                exact ⟨rfl, rfl⟩
              apply NDr.pure
              · exact ⟨rfl, rfl⟩
              apply NDr.pure
              · refine NCall.eq (by simp only [List.length_map] <;> exact rfl) ?_
                refine NCall.call (c2) rfl rfl ?_
                exact ⟨rfl, rfl⟩
              apply NDr.pure
              · exact ⟨rfl, rfl⟩
              apply NDr.pure
              · exact ⟨rfl, rfl⟩
              apply NDr.rd [2]
              · intro fH TH
                exact ⟨rfl, rfl⟩
              apply NDr.rd [0]
              · intro fH TH
                exact ⟨rfl, rfl⟩
              apply NDr.pure
              · refine NCall.call (b3) rfl rfl ?_
                exact ⟨rfl, rfl⟩
              apply NDr.pure
              · exact ⟨rfl, rfl⟩
              apply NDr.pure
              · exact ⟨rfl, rfl⟩
              refine NP.mk (by kernel_rfl) ?_
              exact NRet.mk [] rfl ⟨.refl _, rfl⟩
            · refine NCall.call (awake20) rfl rfl ?_
              refine NCall.call (s1) rfl rfl ?_
              refine NCall.call (s2) rfl rfl ?_
              refine ND.no (by (simp only [List.length_map, List.length_append, List.length_replicate, List.length_cons, List.length_nil, List.length_take, List.length_drop]; omega)) ?_
              refine NP.mk (by kernel_rfl) ?_
              apply NDr.rd [0]
              · intro fH TH
                exact ⟨rfl, rfl⟩
              apply NDr.rd [0]
              · intro fH TH
                exact ⟨rfl, rfl⟩
              apply NDr.rd [0]
              · intro fH TH
                exact ⟨rfl, rfl⟩
              apply NDr.rd [0]
              · intro fH TH
                exact ⟨rfl, rfl⟩
              apply NDr.pure
              · refine NCall.call (a0) rfl rfl ?_
                exact ⟨rfl, rfl⟩
              apply NDr.pure
              · exact ⟨rfl, rfl⟩
              apply NDr.efw []
              · exact ⟨rfl, rfl⟩
              · repeat (first | exact True.intro | refine ⟨by first | exact rfl | exact True.intro, ?_⟩)
              apply NDr.efw [2]
              · exact ⟨rfl, rfl⟩
              · repeat (first | exact True.intro | refine ⟨by first | exact rfl | exact True.intro, ?_⟩)
              refine NP.mk (by kernel_rfl) ?_
              refine NCall.call (a1) rfl rfl ?_
              refine ND.no (by omega) ?_
              refine ND.yes (by omega) ?_
              refine ND.yes (by omega) ?_
              refine NCall.call (ACalls.args (b5) (by repeat (first | exact LeA.refl _ | exact LeA.nils _ | refine LeA.agg ?_ | refine LeA.list _ ?_ | exact LeAs.nil | refine LeAs.cons ?_ ?_))) rfl rfl ?_
              refine NCall.call (a2) rfl rfl ?_
              refine NCall.call (a3) rfl rfl ?_
              refine NP.mk (by kernel_rfl) ?_
              apply NDr.pure
              · exact ⟨rfl, rfl⟩
              apply NDr.pure
              · exact ⟨rfl, rfl⟩
              apply NDr.pure
              · refine ND.yes (by omega) ?_
                exact ⟨rfl, rfl⟩
              apply NDr.pure
              · exact ⟨rfl, rfl⟩
              apply NDr.rd [4]
              · intro fH TH
                exact ⟨rfl, rfl⟩
              apply NDr.rd [5]
              · intro fH TH
                exact ⟨rfl, rfl⟩
              apply NDr.pure
              · refine NCall.call (b1) rfl rfl ?_
                exact ⟨rfl, rfl⟩
              apply NDr.pure
              · exact ⟨rfl, rfl⟩
              apply NDr.pure
              · exact ⟨rfl, rfl⟩
              apply NDr.pure
              · exact ⟨rfl, rfl⟩
              apply NDr.rd [2]
              · intro fH TH
                exact ⟨rfl, rfl⟩
              apply NDr.pure
              · exact ⟨rfl, rfl⟩
              apply NDr.pure
              · refine NCall.call (a4) rfl rfl ?_
                exact ⟨rfl, rfl⟩
              apply NDr.rd [0]
              · intro fH TH
                exact ⟨rfl, rfl⟩
              apply NDr.pure
              · exact ⟨rfl, rfl⟩
              apply NDr.pure
              · refine NCall.call (a5) rfl rfl ?_
                exact ⟨rfl, rfl⟩
              apply NDr.pure
              · refine NCall.call (b2) rfl rfl ?_
                exact ⟨rfl, rfl⟩
              apply NDr.pure
              · exact ⟨rfl, rfl⟩
              apply NDr.pure
              · exact ⟨rfl, rfl⟩
              refine NP.mk (by kernel_rfl) ?_
              refine NCall.call (a6) rfl rfl ?_
              refine ND.no (by (simp only [List.length_map, List.length_append, List.length_replicate, List.length_cons, List.length_nil, List.length_take, List.length_drop]; omega)) ?_
              refine NP.mk (by kernel_rfl) ?_
              apply NDr.pure
              · exact ⟨rfl, rfl⟩
              apply NDr.pure
              · exact ⟨rfl, rfl⟩
              apply NDr.rd [6]
              · intro fH TH
                exact ⟨rfl, rfl⟩
              apply NDr.rd [0]
              · intro fH TH
                exact ⟨rfl, rfl⟩
              apply NDr.rd [0]
              · intro fH TH
                exact ⟨rfl, rfl⟩
              apply NDr.rd [0]
              · intro fH TH
                exact ⟨rfl, rfl⟩
              apply NDr.rd [0]
              · intro fH TH
                exact ⟨rfl, rfl⟩
              apply NDr.pure
              · exact ⟨rfl, rfl⟩
              apply NDr.pure
              · refine NW.i64 (by omega) (by omega) ?_
                exact ⟨rfl, rfl⟩
              apply NDr.pure
              · refine NP.mk (by (simp only [List.length_map, List.length_append, List.length_replicate, List.length_cons, List.length_nil, List.length_take, List.length_drop]; omega)) ?_
                refine NG.map (by omega) ?_
                exact ⟨rfl, rfl⟩
              apply NDr.pure
              · exact ⟨rfl, rfl⟩
              apply NDr.pure
              · refine NCall.eq (by simp only [List.length_map] <;> exact rfl) ?_
                refine NCall.call (c2) rfl rfl ?_
                exact ⟨rfl, rfl⟩
              apply NDr.pure
              · exact ⟨rfl, rfl⟩
              apply NDr.pure
              · exact ⟨rfl, rfl⟩
              apply NDr.rd [2]
              · intro fH TH
                exact ⟨rfl, rfl⟩
              apply NDr.rd [0]
              · intro fH TH
                exact ⟨rfl, rfl⟩
              apply NDr.pure
              · refine NCall.call (b3) rfl rfl ?_
                exact ⟨rfl, rfl⟩
              apply NDr.pure
              · exact ⟨rfl, rfl⟩
              apply NDr.pure
              · exact ⟨rfl, rfl⟩
              refine NP.mk (by kernel_rfl) ?_
              exact NRet.mk [] rfl ⟨.refl _, rfl⟩
        · have e0 : q.list = [] := List.length_eq_zero_iff.1 (by omega)
          have e : q.list.getLast? = none := by rw [e0]; rfl
          rw [e] at a6
          dsimp only at a6
          have c1 := same13_walk ⟨0, 0, [], []⟩ ⟨0, 0, [], []⟩ (by simp [smTxn, okInt])
          rw [decide_eq_true rfl] at c1
          by_cases hm : 0 ≤ most ∧ most ≤ 16
          · rw [if_pos hm] at a1
            refine NCall.call (awake20) rfl rfl ?_
            refine NCall.call (s1) rfl rfl ?_
            refine NCall.call (s2) rfl rfl ?_
            refine ND.no (by (simp only [List.length_map, List.length_append, List.length_replicate, List.length_cons, List.length_nil, List.length_take, List.length_drop]; omega)) ?_
            refine NP.mk (by kernel_rfl) ?_
            apply NDr.rd [0]
            · intro fH TH
              exact ⟨rfl, rfl⟩
            apply NDr.rd [0]
            · intro fH TH
              exact ⟨rfl, rfl⟩
            apply NDr.rd [0]
            · intro fH TH
              exact ⟨rfl, rfl⟩
            apply NDr.rd [0]
            · intro fH TH
              exact ⟨rfl, rfl⟩
            apply NDr.pure
            · refine NCall.call (a0) rfl rfl ?_
              exact ⟨rfl, rfl⟩
            apply NDr.pure
            · exact ⟨rfl, rfl⟩
            apply NDr.efw []
            · exact ⟨rfl, rfl⟩
            · repeat (first | exact True.intro | refine ⟨by first | exact rfl | exact True.intro, ?_⟩)
            apply NDr.efw [2]
            · exact ⟨rfl, rfl⟩
            · repeat (first | exact True.intro | refine ⟨by first | exact rfl | exact True.intro, ?_⟩)
            refine NP.mk (by kernel_rfl) ?_
            refine NCall.call (a1) rfl rfl ?_
            refine ND.no (by omega) ?_
            refine ND.no (by omega) ?_
            refine ND.yes (by omega) ?_
            refine NCall.call (ACalls.args (b4) (by repeat (first | exact LeA.refl _ | exact LeA.nils _ | refine LeA.agg ?_ | refine LeA.list _ ?_ | exact LeAs.nil | refine LeAs.cons ?_ ?_))) rfl rfl ?_
            refine NCall.call (a2) rfl rfl ?_
            refine NCall.call (a3) rfl rfl ?_
            refine NP.mk (by kernel_rfl) ?_
            apply NDr.pure
            · exact ⟨rfl, rfl⟩
            apply NDr.pure
            · exact ⟨rfl, rfl⟩
            apply NDr.pure
            · refine ND.yes (by omega) ?_
              exact ⟨rfl, rfl⟩
            apply NDr.pure
            · exact ⟨rfl, rfl⟩
            apply NDr.rd [4]
            · intro fH TH
              exact ⟨rfl, rfl⟩
            apply NDr.rd [5]
            · intro fH TH
              exact ⟨rfl, rfl⟩
            apply NDr.pure
            · refine NCall.call (b1) rfl rfl ?_
              exact ⟨rfl, rfl⟩
            apply NDr.pure
            · exact ⟨rfl, rfl⟩
            apply NDr.pure
            · exact ⟨rfl, rfl⟩
            apply NDr.pure
            · exact ⟨rfl, rfl⟩
            apply NDr.rd [2]
            · intro fH TH
              exact ⟨rfl, rfl⟩
            apply NDr.pure
            · exact ⟨rfl, rfl⟩
            apply NDr.pure
            · refine NCall.call (a4) rfl rfl ?_
              exact ⟨rfl, rfl⟩
            apply NDr.rd [0]
            · intro fH TH
              exact ⟨rfl, rfl⟩
            apply NDr.pure
            · exact ⟨rfl, rfl⟩
            apply NDr.pure
            · refine NCall.call (a5) rfl rfl ?_
              exact ⟨rfl, rfl⟩
            apply NDr.pure
            · refine NCall.call (b2) rfl rfl ?_
              exact ⟨rfl, rfl⟩
            apply NDr.pure
            · exact ⟨rfl, rfl⟩
            apply NDr.pure
            · exact ⟨rfl, rfl⟩
            refine NP.mk (by kernel_rfl) ?_
            refine NCall.call (a6) rfl rfl ?_
            refine ND.yes (by (simp only [List.length_map, List.length_append, List.length_replicate, List.length_cons, List.length_nil, List.length_take, List.length_drop]; omega)) ?_
            refine NCall.call (ACalls.args (c1) (by repeat (first | exact LeA.refl _ | exact LeA.nils _ | refine LeA.agg ?_ | refine LeA.list _ ?_ | exact LeAs.nil | refine LeAs.cons ?_ ?_))) rfl rfl ?_
            exact NRet.mk [] rfl ⟨.refl _, rfl⟩
          · rw [if_neg hm] at a1
            by_cases hm0 : most < 0
            · refine NCall.call (awake20) rfl rfl ?_
              refine NCall.call (s1) rfl rfl ?_
              refine NCall.call (s2) rfl rfl ?_
              refine ND.no (by (simp only [List.length_map, List.length_append, List.length_replicate, List.length_cons, List.length_nil, List.length_take, List.length_drop]; omega)) ?_
              refine NP.mk (by kernel_rfl) ?_
              apply NDr.rd [0]
              · intro fH TH
                exact ⟨rfl, rfl⟩
              apply NDr.rd [0]
              · intro fH TH
                exact ⟨rfl, rfl⟩
              apply NDr.rd [0]
              · intro fH TH
                exact ⟨rfl, rfl⟩
              apply NDr.rd [0]
              · intro fH TH
                exact ⟨rfl, rfl⟩
              apply NDr.pure
              · refine NCall.call (a0) rfl rfl ?_
                exact ⟨rfl, rfl⟩
              apply NDr.pure
              · exact ⟨rfl, rfl⟩
              apply NDr.efw []
              · exact ⟨rfl, rfl⟩
              · repeat (first | exact True.intro | refine ⟨by first | exact rfl | exact True.intro, ?_⟩)
              apply NDr.efw [2]
              · exact ⟨rfl, rfl⟩
              · repeat (first | exact True.intro | refine ⟨by first | exact rfl | exact True.intro, ?_⟩)
              refine NP.mk (by kernel_rfl) ?_
              refine NCall.call (a1) rfl rfl ?_
              refine ND.yes (by omega) ?_
              refine ND.yes (by omega) ?_
              refine NCall.call (ACalls.args (b5) (by repeat (first | exact LeA.refl _ | exact LeA.nils _ | refine LeA.agg ?_ | refine LeA.list _ ?_ | exact LeAs.nil | refine LeAs.cons ?_ ?_))) rfl rfl ?_
              refine NCall.call (a2) rfl rfl ?_
              refine NCall.call (a3) rfl rfl ?_
              refine NP.mk (by kernel_rfl) ?_
              apply NDr.pure
              · exact ⟨rfl, rfl⟩
              apply NDr.pure
              · exact ⟨rfl, rfl⟩
              apply NDr.pure
              · refine ND.yes (by omega) ?_
                exact ⟨rfl, rfl⟩
              apply NDr.pure
              · exact ⟨rfl, rfl⟩
              apply NDr.rd [4]
              · intro fH TH
                exact ⟨rfl, rfl⟩
              apply NDr.rd [5]
              · intro fH TH
                exact ⟨rfl, rfl⟩
              apply NDr.pure
              · refine NCall.call (b1) rfl rfl ?_
                exact ⟨rfl, rfl⟩
              apply NDr.pure
              · exact ⟨rfl, rfl⟩
              apply NDr.pure
              · exact ⟨rfl, rfl⟩
              apply NDr.pure
              · exact ⟨rfl, rfl⟩
              apply NDr.rd [2]
              · intro fH TH
                exact ⟨rfl, rfl⟩
              apply NDr.pure
              · exact ⟨rfl, rfl⟩
              apply NDr.pure
              · refine NCall.call (a4) rfl rfl ?_
                exact ⟨rfl, rfl⟩
              apply NDr.rd [0]
              · intro fH TH
                exact ⟨rfl, rfl⟩
              apply NDr.pure
              · exact ⟨rfl, rfl⟩
              apply NDr.pure
              · refine NCall.call (a5) rfl rfl ?_
                exact ⟨rfl, rfl⟩
              apply NDr.pure
              · refine NCall.call (b2) rfl rfl ?_
                exact ⟨rfl, rfl⟩
              apply NDr.pure
              · exact ⟨rfl, rfl⟩
              apply NDr.pure
              · exact ⟨rfl, rfl⟩
              refine NP.mk (by kernel_rfl) ?_
              refine NCall.call (a6) rfl rfl ?_
              refine ND.yes (by (simp only [List.length_map, List.length_append, List.length_replicate, List.length_cons, List.length_nil, List.length_take, List.length_drop]; omega)) ?_
              refine NCall.call (ACalls.args (c1) (by repeat (first | exact LeA.refl _ | exact LeA.nils _ | refine LeA.agg ?_ | refine LeA.list _ ?_ | exact LeAs.nil | refine LeAs.cons ?_ ?_))) rfl rfl ?_
              exact NRet.mk [] rfl ⟨.refl _, rfl⟩
            · refine NCall.call (awake20) rfl rfl ?_
              refine NCall.call (s1) rfl rfl ?_
              refine NCall.call (s2) rfl rfl ?_
              refine ND.no (by (simp only [List.length_map, List.length_append, List.length_replicate, List.length_cons, List.length_nil, List.length_take, List.length_drop]; omega)) ?_
              refine NP.mk (by kernel_rfl) ?_
              apply NDr.rd [0]
              · intro fH TH
                exact ⟨rfl, rfl⟩
              apply NDr.rd [0]
              · intro fH TH
                exact ⟨rfl, rfl⟩
              apply NDr.rd [0]
              · intro fH TH
                exact ⟨rfl, rfl⟩
              apply NDr.rd [0]
              · intro fH TH
                exact ⟨rfl, rfl⟩
              apply NDr.pure
              · refine NCall.call (a0) rfl rfl ?_
                exact ⟨rfl, rfl⟩
              apply NDr.pure
              · exact ⟨rfl, rfl⟩
              apply NDr.efw []
              · exact ⟨rfl, rfl⟩
              · repeat (first | exact True.intro | refine ⟨by first | exact rfl | exact True.intro, ?_⟩)
              apply NDr.efw [2]
              · exact ⟨rfl, rfl⟩
              · repeat (first | exact True.intro | refine ⟨by first | exact rfl | exact True.intro, ?_⟩)
              refine NP.mk (by kernel_rfl) ?_
              refine NCall.call (a1) rfl rfl ?_
              refine ND.no (by omega) ?_
              refine ND.yes (by omega) ?_
              refine ND.yes (by omega) ?_
              refine NCall.call (ACalls.args (b5) (by repeat (first | exact LeA.refl _ | exact LeA.nils _ | refine LeA.agg ?_ | refine LeA.list _ ?_ | exact LeAs.nil | refine LeAs.cons ?_ ?_))) rfl rfl ?_
              refine NCall.call (a2) rfl rfl ?_
              refine NCall.call (a3) rfl rfl ?_
              refine NP.mk (by kernel_rfl) ?_
              apply NDr.pure
              · exact ⟨rfl, rfl⟩
              apply NDr.pure
              · exact ⟨rfl, rfl⟩
              apply NDr.pure
              · refine ND.yes (by omega) ?_
                exact ⟨rfl, rfl⟩
              apply NDr.pure
              · exact ⟨rfl, rfl⟩
              apply NDr.rd [4]
              · intro fH TH
                exact ⟨rfl, rfl⟩
              apply NDr.rd [5]
              · intro fH TH
                exact ⟨rfl, rfl⟩
              apply NDr.pure
              · refine NCall.call (b1) rfl rfl ?_
                exact ⟨rfl, rfl⟩
              apply NDr.pure
              · exact ⟨rfl, rfl⟩
              apply NDr.pure
              · exact ⟨rfl, rfl⟩
              apply NDr.pure
              · exact ⟨rfl, rfl⟩
              apply NDr.rd [2]
              · intro fH TH
                exact ⟨rfl, rfl⟩
              apply NDr.pure
              · exact ⟨rfl, rfl⟩
              apply NDr.pure
              · refine NCall.call (a4) rfl rfl ?_
                exact ⟨rfl, rfl⟩
              apply NDr.rd [0]
              · intro fH TH
                exact ⟨rfl, rfl⟩
              apply NDr.pure
              · exact ⟨rfl, rfl⟩
              apply NDr.pure
              · refine NCall.call (a5) rfl rfl ?_
                exact ⟨rfl, rfl⟩
              apply NDr.pure
              · refine NCall.call (b2) rfl rfl ?_
                exact ⟨rfl, rfl⟩
              apply NDr.pure
              · exact ⟨rfl, rfl⟩
              apply NDr.pure
              · exact ⟨rfl, rfl⟩
              refine NP.mk (by kernel_rfl) ?_
              refine NCall.call (a6) rfl rfl ?_
              refine ND.yes (by (simp only [List.length_map, List.length_append, List.length_replicate, List.length_cons, List.length_nil, List.length_take, List.length_drop]; omega)) ?_
              refine NCall.call (ACalls.args (c1) (by repeat (first | exact LeA.refl _ | exact LeA.nils _ | refine LeA.agg ?_ | refine LeA.list _ ?_ | exact LeAs.nil | refine LeAs.cons ?_ ?_))) rfl rfl ?_
              exact NRet.mk [] rfl ⟨.refl _, rfl⟩
      · refine NCall.call (awake20) rfl rfl ?_
        refine NCall.call (s1) rfl rfl ?_
        refine NCall.call (s2) rfl rfl ?_
        refine ND.yes (by (simp only [List.length_map, List.length_append, List.length_replicate, List.length_cons, List.length_nil, List.length_take, List.length_drop]; omega)) ?_
        exact NRet.mk [] rfl ⟨.refl _, rfl⟩
    | false =>
      rw [h2] at s2
      refine NCall.call (awake20) rfl rfl ?_
      refine NCall.call (s1) rfl rfl ?_
      refine NCall.call (s2) rfl rfl ?_
      exact NRet.mk [] rfl ⟨.refl _, rfl⟩
  | false =>
    rw [h1] at s1
    refine NCall.call (awake20) rfl rfl ?_
    refine NCall.call (s1) rfl rfl ?_
    exact NRet.mk [] rfl ⟨.refl _, rfl⟩
def goodQ (q : Queue) : Prop := (smQ q ∧ q.most ≤ 16) ∧ (q.list.length : Int) ≤ q.most ∧ (∃ n s, consec n s q.list) ∧ ∀ t ∈ q.list, formed t = true
theorem vat_mk {N k : Nat} {X : Int} (h : N < k) (hX : 0 ≤ X) : vat ((List.replicate k 0).set N X) N = X := by
  rw [vat_in (by simpa using h), List.getElem_set_self]; omega
theorem goodQ_push {q : Queue} {t : Txn} (h : goodQ q) (ht : smTxn t) (hp : pushC q t = 0) : goodQ ⟨q.most, q.list ++ [t]⟩ := by
  obtain ⟨⟨h1, h16⟩, h2, ⟨n, s, h3⟩, h4⟩ := h
  have hf : formed t = true := by
    cases hf : formed t with
    | true => rfl
    | false => rw [pushC_form hf] at hp; simp at hp
  have hg : gapB q.list t = false := by
    cases hg : gapB q.list t with
    | false => rfl
    | true => rw [pushC_gap hf hg] at hp; simp at hp
  have hm : (q.list.length : Int) < q.most := by
    refine Classical.byContradiction fun hm => ?_
    rw [pushC_full hf hg hm] at hp; simp at hp
  have hq := smQ_push h1 ht (by omega)
  rw [pushQ_good hp] at hq
  refine ⟨⟨hq, h16⟩, by simp; omega, consec_snoc h3 hg, fun x hx => ?_⟩
  rcases List.mem_append.1 hx with hx | hx
  · exact h4 x hx
  · rw [List.mem_singleton.1 hx]; exact hf
theorem queueKeeps_walk (most : Int) (l : List QOp) (hl : l.length ≤ reachBytes) (hx : ∀ x ∈ l, okQOp x) : ACalls Try.prog Nm.law20_QueueKeeps [i64 most, .list (.agg 6) (l.map qopA)] [] (.bool true) [] := by
  refine ACalls_of tab (dr_snd tab mixed) Nm.law20_QueueKeeps_h rfl (by kernel_rfl) (Nat.le_of_ble_eq_true rfl) rfl ?_
  have hl' := reach_lt hl
  have a1 := newQ_walk most
  by_cases hm : 0 ≤ most ∧ most ≤ 16
  · rw [if_pos hm] at a1
    refine NCall.call (awake20) rfl rfl ?_
    refine NCall.call (a1) rfl rfl ?_
    refine ND.yes (by omega) ?_
    refine NLoop.mk [] [0, 1, 5, 7] (fun m vs H => ∃ (i : Nat) (q : Queue), i ≤ 40 ∧ m = 40 - i ∧ goodQ q ∧ q.most = most ∧ H = [.row .box (.agg 2) [queueA q]] ∧ vs = [i64 most, .list (.agg 6) (l.map qopA), .ptr 0 0 0, i64 i]) rfl ?_ ?_
    · exact Canon.mk [0] rfl ⟨40, 0, ⟨most, []⟩, Nat.zero_le _, rfl, ⟨⟨⟨by simp, by simp⟩, hm.2⟩, by simpa using hm.1, ⟨0, 0, fun k hk => by simp at hk⟩, by simp⟩, rfl, rfl, rfl⟩
    · rintro m vs H ⟨i, q, hi, rfl, hg, hmost, rfl, rfl⟩
      have hg0 := hg
      obtain ⟨⟨hsq, h16⟩, hql, ⟨n, s, hc⟩, hf⟩ := hg
      have hml : (q.list.map txnA).length = q.list.length := by simp
      have hqm : (q.list.length : Int) ≤ most := by omega
      by_cases hil : i < l.length
      · by_cases hi4 : i < 40
        · have ho := hx _ (List.getElem_mem hil)
          have s2 := short13_walk [l[i].t] (by simp) (by simpa using ho.2.2)
          cases h2 : shortT [l[i].t] with
          | true =>
            rw [h2] at s2
            have hst := short1_sm h2 ho.2.2
            cases hh : l[i].hears with
            | true =>
              by_cases hb : 0 < q.list.length ∧ 0 ≤ l[i].n ∧ l[i].n ≤ q.list.length
              · have c0 := hc 0 (by omega)
                have f0 := formed_okN (hf _ (List.getElem_mem (show 0 < q.list.length by omega)))
                unfold okN at f0
                have c0' : q.list[Int.toNat 0].node = n ∧ q.list[Int.toNat 0].seq = s := ⟨c0.1, c0.2.trans (by omega)⟩
                have hrep : (List.replicate (q.list[Int.toNat 0].node + 1).toNat (AV.int .i64 0))[0 + q.list[Int.toNat 0].node.toNat]? = some (i64 0) := by
                  rw [List.getElem?_replicate, if_pos (by omega)]; rfl
                have hN : q.list[Int.toNat 0].node.toNat < (q.list[Int.toNat 0].node + 1).toNat := by omega
                obtain ⟨w, hwd⟩ : ∃ w, w = (List.replicate (q.list[Int.toNat 0].node + 1).toNat 0).set q.list[Int.toNat 0].node.toNat (q.list[Int.toNat 0].seq - 1 + l[i].n) := ⟨_, rfl⟩
                have hwl : w.length = (q.list[Int.toNat 0].node + 1).toNat := by rw [hwd]; simp
                have hwm : w.map i64 = List.take (q.list[Int.toNat 0].node + 1).toNat (List.drop 0 ((List.replicate (q.list[Int.toNat 0].node + 1).toNat (AV.int .i64 0)).set (0 + q.list[Int.toNat 0].node.toNat) (AV.int .i64 (q.list[Int.toNat 0].seq - 1 + l[i].n)))) := by
                  rw [List.drop_zero, List.take_of_length_le (by simp), hwd, List.map_set, List.map_replicate, Nat.zero_add]; rfl
                have hvw : vatI w n = q.list[Int.toNat 0].seq - 1 + l[i].n := by
                  rw [← c0'.1]
                  unfold vatI
                  rw [if_neg (by omega), hwd]
                  exact vat_mk hN (by omega)
                have a2 := heardQ_list q w hsq (by omega)
                have eh : heardQ q w = ⟨q.most, q.list.drop l[i].n.toNat⟩ := by
                  unfold heardQ
                  rw [leftB_consec hc (by omega), hvw, show (q.list[Int.toNat 0].seq - 1 + l[i].n - s + 1).toNat = l[i].n.toNat by omega]
                rw [eh] at a2
                have hg2 : goodQ ⟨q.most, q.list.drop l[i].n.toNat⟩ := ⟨⟨⟨by simp; have := hsq.1; omega, fun x hx => hsq.2 x (List.mem_of_mem_drop hx)⟩, h16⟩, by simp; omega, ⟨n, _, consec_drop hc _⟩, fun x hx => hf x (List.mem_of_mem_drop hx)⟩
                have hll2 : (q.list.drop l[i].n.toNat).length = q.list.length - l[i].n.toNat := by simp
                have hml2 : ((q.list.drop l[i].n.toNat).map txnA).length = q.list.length - l[i].n.toNat := by simp
                refine ND.yes (by (simp only [List.length_map, List.length_append, List.length_replicate, List.length_cons, List.length_nil, List.length_take, List.length_drop]; omega)) ?_
                refine ND.yes (by omega) ?_
                refine NP.mk (by omega) ?_
                refine NG.mapN (by omega) ?_
                refine NCall.call (s2) rfl rfl ?_
                refine NB.yes (by assumption) ?_
                refine ND.no (by omega) ?_
                refine ND.no (by omega) ?_
                refine ND.no (by omega) ?_
                refine NP.mk (by omega) ?_
                refine NG.map (by omega) ?_
                refine NW.i64 (by omega) (by omega) ?_
                refine NP.mk (by omega) ?_
                refine NMk.own ?_
                refine NP.mk (by kernel_rfl) ?_
                apply NDr.any
                · intro H'
                  exact ⟨rfl, rfl⟩
                apply NDr.rd [0]
                · intro fH TH
                  exact ⟨rfl, rfl⟩
                apply NDr.rd [0]
                · intro fH TH
                  exact ⟨rfl, rfl⟩
                apply NDr.pure
                · refine NP.mk (by omega) ?_
                  refine NG.map (by omega) ?_
                  exact ⟨rfl, rfl⟩
                apply NDr.pure
                · exact ⟨rfl, rfl⟩
                apply NDr.pure
                · exact ⟨rfl, rfl⟩
                apply NDr.rd [0]
                · intro fH TH
                  exact ⟨rfl, rfl⟩
                apply NDr.rd [0]
                · intro fH TH
                  exact ⟨rfl, rfl⟩
                apply NDr.pure
                · refine NP.mk (by omega) ?_
                  refine NG.map (by omega) ?_
                  exact ⟨rfl, rfl⟩
                apply NDr.pure
                · exact ⟨rfl, rfl⟩
                apply NDr.pure
                · exact ⟨rfl, rfl⟩
                apply NDr.pure
                · refine NW.i64 (by omega) (by omega) ?_
                  exact ⟨rfl, rfl⟩
                apply NDr.rd [1]
                · intro fH TH
                  exact ⟨rfl, rfl⟩
                apply NDr.rd [1]
                · intro fH TH
                  exact ⟨rfl, rfl⟩
                apply NDr.pure
                · refine NW.i64 (by omega) (by omega) ?_
                  exact ⟨rfl, rfl⟩
                apply NDr.rd [2]
                · intro fH TH
                  refine NP.mk (by (simp only [List.length_map, List.length_append, List.length_replicate, List.length_cons, List.length_nil, List.length_take, List.length_drop]; omega)) ?_
                  exact ⟨rfl, rfl⟩
                apply NDr.efw [2]
                · refine NG.mk _ (by assumption) ?_
                  exact ⟨rfl, rfl⟩
                · repeat (first | exact True.intro | refine ⟨by first | exact rfl | exact True.intro, ?_⟩)
                refine NP.mk (by kernel_rfl) ?_
                refine NCall.frzAllN [2] a2 (.cons (.same _) (.cons (.own (by simp) rfl (by simp) (by simp) hwm) .nil)) rfl rfl rfl ?_
                refine NW.i64 (by omega) (by omega) ?_
                refine ND.yes (by (simp only [List.length_map, List.length_append, List.length_replicate, List.length_cons, List.length_nil, List.length_take, List.length_drop]; omega)) ?_
                refine ND.no (by (simp only [List.length_map, List.length_append, List.length_replicate, List.length_cons, List.length_nil, List.length_take, List.length_drop]; omega)) ?_
                have hgc := hg2
                obtain ⟨⟨hsq', h16'⟩, hql', ⟨n', s', hc'⟩, hf'⟩ := hgc
                have hml' : (((⟨q.most, q.list.drop l[i].n.toNat⟩ : Queue)).list.map txnA).length = ((⟨q.most, q.list.drop l[i].n.toNat⟩ : Queue)).list.length := by simp
                have hl30 := hsq'.1
                refine NLoop.mk [] [0, 1, 5, 7, 13] (fun m vs H => ∃ k : Nat, 1 ≤ k ∧ k ≤ ((⟨q.most, q.list.drop l[i].n.toNat⟩ : Queue)).list.length + 1 ∧ m = ((⟨q.most, q.list.drop l[i].n.toNat⟩ : Queue)).list.length + 1 - k ∧ H = [.row .box (.agg 2) [queueA ((⟨q.most, q.list.drop l[i].n.toNat⟩ : Queue))]] ∧ vs = [i64 most, .list (.agg 6) (l.map qopA), .ptr 0 0 0, i64 i, i64 k]) rfl ?_ ?_
                · exact Canon.mk [0] rfl ⟨((⟨q.most, q.list.drop l[i].n.toNat⟩ : Queue)).list.length + 1 - 1, 1, by omega, by omega, rfl, rfl, rfl⟩
                · rintro m vs H ⟨k, hk1, hk2, rfl, rfl, rfl⟩
                  by_cases hkl : k < ((⟨q.most, q.list.drop l[i].n.toNat⟩ : Queue)).list.length
                  · have c0 := hc' 0 (by omega)
                    have ck := hc' k hkl
                    have f0 := formed_okN (hf' _ (List.getElem_mem (show 0 < ((⟨q.most, q.list.drop l[i].n.toNat⟩ : Queue)).list.length by omega)))
                    have fk := formed_okN (hf' _ (List.getElem_mem hkl))
                    unfold okN at f0 fk
                    have h0l : Int.toNat 0 < ((⟨q.most, q.list.drop l[i].n.toNat⟩ : Queue)).list.length := show 0 < _ by omega
                    have c0' : (((⟨q.most, q.list.drop l[i].n.toNat⟩ : Queue)).list[Int.toNat 0]'h0l).node = n' ∧ (((⟨q.most, q.list.drop l[i].n.toNat⟩ : Queue)).list[Int.toNat 0]'h0l).seq = s' := ⟨c0.1, c0.2.trans (by omega)⟩
                    refine ND.yes (by omega) ?_
                    refine NP.mk (by kernel_rfl) ?_
                    apply NDr.rd [0]
                    · intro fH TH
                      exact ⟨rfl, rfl⟩
                    apply NDr.rd [0]
                    · intro fH TH
                      exact ⟨rfl, rfl⟩
                    apply NDr.pure
                    · exact ⟨rfl, rfl⟩
                    apply NDr.pure
                    · refine NP.mk (by omega) ?_
                      refine NG.mapN (by omega) ?_
                      exact ⟨rfl, rfl⟩
                    apply NDr.pure
                    · exact ⟨rfl, rfl⟩
                    apply NDr.pure
                    · exact ⟨rfl, rfl⟩
                    apply NDr.rd [0]
                    · intro fH TH
                      exact ⟨rfl, rfl⟩
                    apply NDr.rd [0]
                    · intro fH TH
                      exact ⟨rfl, rfl⟩
                    apply NDr.pure
                    · refine NP.mk (by omega) ?_
                      refine NG.map (by omega) ?_
                      exact ⟨rfl, rfl⟩
                    apply NDr.pure
                    · exact ⟨rfl, rfl⟩
                    apply NDr.pure
                    · exact ⟨rfl, rfl⟩
                    apply NDr.pure
                    · refine ND.yes (by omega) ?_
                      exact ⟨rfl, rfl⟩
                    apply NDr.pure
                    · exact ⟨rfl, rfl⟩
                    apply NDr.rd [0]
                    · intro fH TH
                      exact ⟨rfl, rfl⟩
                    apply NDr.rd [0]
                    · intro fH TH
                      exact ⟨rfl, rfl⟩
                    apply NDr.pure
                    · exact ⟨rfl, rfl⟩
                    apply NDr.pure
                    · refine NP.mk (by omega) ?_
                      refine NG.mapN (by omega) ?_
                      exact ⟨rfl, rfl⟩
                    apply NDr.pure
                    · exact ⟨rfl, rfl⟩
                    apply NDr.pure
                    · exact ⟨rfl, rfl⟩
                    apply NDr.rd [0]
                    · intro fH TH
                      exact ⟨rfl, rfl⟩
                    apply NDr.rd [0]
                    · intro fH TH
                      exact ⟨rfl, rfl⟩
                    apply NDr.pure
                    · refine NP.mk (by omega) ?_
                      refine NG.map (by omega) ?_
                      exact ⟨rfl, rfl⟩
                    apply NDr.pure
                    · exact ⟨rfl, rfl⟩
                    apply NDr.pure
                    · exact ⟨rfl, rfl⟩
                    apply NDr.pure
                    · exact ⟨rfl, rfl⟩
                    apply NDr.pure
                    · refine NW.i64 (by omega) (by omega) ?_
                      exact ⟨rfl, rfl⟩
                    apply NDr.pure
                    · refine ND.yes (by omega) ?_
                      exact ⟨rfl, rfl⟩
                    apply NDr.pure
                    · exact ⟨rfl, rfl⟩
                    refine NP.mk (by kernel_rfl) ?_
                    refine NW.i64 (by omega) (by omega) ?_
                    exact Canon.mk [0] rfl ⟨((⟨q.most, q.list.drop l[i].n.toNat⟩ : Queue)).list.length + 1 - (k + 1), by omega, k + 1, by omega, by omega, rfl, rfl, rfl⟩
                  · refine ND.no (by omega) ?_
                    refine NW.i64 (by omega) (by omega) ?_
                    exact Canon.mk [0] rfl ⟨40 - (i + 1), by omega, i + 1, (⟨q.most, q.list.drop l[i].n.toNat⟩ : Queue), by omega, rfl, hg2, hmost, rfl, rfl⟩
              · have fin0 : ∃ m', m' < 40 - i ∧ ∃ (i' : Nat) (q' : Queue), i' ≤ 40 ∧ m' = 40 - i' ∧ goodQ q' ∧ q'.most = most ∧ [Blk.row .box (.agg 2) [queueA q]] = [.row .box (.agg 2) [queueA q']] ∧ [i64 most, .list (.agg 6) (l.map qopA), .ptr 0 0 0, i64 ((i + 1 : Nat) : Int)] = [i64 most, .list (.agg 6) (l.map qopA), .ptr 0 0 0, i64 i'] :=
                  ⟨40 - (i + 1), by omega, i + 1, q, by omega, rfl, hg0, hmost, rfl, rfl⟩
                refine ND.yes (by (simp only [List.length_map, List.length_append, List.length_replicate, List.length_cons, List.length_nil, List.length_take, List.length_drop]; omega)) ?_
                refine ND.yes (by omega) ?_
                refine NP.mk (by omega) ?_
                refine NG.mapN (by omega) ?_
                refine NCall.call (s2) rfl rfl ?_
                refine NB.yes (by assumption) ?_
                refine NB.dec (fun hk4 => ?_) (fun hk4 => ?_)
                · refine NW.i64 (by omega) (by omega) ?_
                  exact (Canon.mk [0] rfl fin0)
                refine NB.dec (fun hk5 => ?_) (fun hk5 => ?_)
                · refine NW.i64 (by omega) (by omega) ?_
                  exact (Canon.mk [0] rfl fin0)
                refine ND.yes (by omega) ?_
                refine NW.i64 (by omega) (by omega) ?_
                exact (Canon.mk [0] rfl fin0)
            | false =>
              have a2 := push_walk q l[i].t hsq hst
              by_cases hp : pushC q l[i].t = 0
              · rw [hp, pushQ_good hp] at a2
                have hg1 : goodQ ⟨q.most, q.list ++ [l[i].t]⟩ := goodQ_push hg0 hst hp
                have hml1 : ((q.list ++ [l[i].t]).map txnA).length = q.list.length + 1 := by simp
                have hqm1 : ((q.list ++ [l[i].t]).length : Int) ≤ q.most := hg1.2.1
                have hll1 : (q.list ++ [l[i].t]).length = q.list.length + 1 := by simp
                refine ND.yes (by (simp only [List.length_map, List.length_append, List.length_replicate, List.length_cons, List.length_nil, List.length_take, List.length_drop]; omega)) ?_
                refine ND.yes (by omega) ?_
                refine NP.mk (by omega) ?_
                refine NG.mapN (by omega) ?_
                refine NCall.call (s2) rfl rfl ?_
                refine NB.no (by assumption) ?_
                refine NCall.call (a2) rfl rfl ?_
                refine ND.yes (by omega) ?_
                refine NW.i64 (by omega) (by omega) ?_
                refine ND.yes (by (simp only [List.length_map, List.length_append, List.length_replicate, List.length_cons, List.length_nil, List.length_take, List.length_drop]; omega)) ?_
                refine ND.no (by (simp only [List.length_map, List.length_append, List.length_replicate, List.length_cons, List.length_nil, List.length_take, List.length_drop]; omega)) ?_
                have hgc := hg1
                obtain ⟨⟨hsq', h16'⟩, hql', ⟨n', s', hc'⟩, hf'⟩ := hgc
                have hml' : (((⟨q.most, q.list ++ [l[i].t]⟩ : Queue)).list.map txnA).length = ((⟨q.most, q.list ++ [l[i].t]⟩ : Queue)).list.length := by simp
                have hl30 := hsq'.1
                refine NLoop.mk [] [0, 1, 5, 7, 13] (fun m vs H => ∃ k : Nat, 1 ≤ k ∧ k ≤ ((⟨q.most, q.list ++ [l[i].t]⟩ : Queue)).list.length + 1 ∧ m = ((⟨q.most, q.list ++ [l[i].t]⟩ : Queue)).list.length + 1 - k ∧ H = [.row .box (.agg 2) [queueA ((⟨q.most, q.list ++ [l[i].t]⟩ : Queue))]] ∧ vs = [i64 most, .list (.agg 6) (l.map qopA), .ptr 0 0 0, i64 i, i64 k]) rfl ?_ ?_
                · exact Canon.mk [0] rfl ⟨((⟨q.most, q.list ++ [l[i].t]⟩ : Queue)).list.length + 1 - 1, 1, by omega, by omega, rfl, rfl, rfl⟩
                · rintro m vs H ⟨k, hk1, hk2, rfl, rfl, rfl⟩
                  by_cases hkl : k < ((⟨q.most, q.list ++ [l[i].t]⟩ : Queue)).list.length
                  · have c0 := hc' 0 (by omega)
                    have ck := hc' k hkl
                    have f0 := formed_okN (hf' _ (List.getElem_mem (show 0 < ((⟨q.most, q.list ++ [l[i].t]⟩ : Queue)).list.length by omega)))
                    have fk := formed_okN (hf' _ (List.getElem_mem hkl))
                    unfold okN at f0 fk
                    have c0' : ((⟨q.most, q.list ++ [l[i].t]⟩ : Queue)).list[Int.toNat 0].node = n' ∧ ((⟨q.most, q.list ++ [l[i].t]⟩ : Queue)).list[Int.toNat 0].seq = s' := ⟨c0.1, c0.2.trans (by omega)⟩
                    refine ND.yes (by omega) ?_
                    refine NP.mk (by kernel_rfl) ?_
                    apply NDr.rd [0]
                    · intro fH TH
                      exact ⟨rfl, rfl⟩
                    apply NDr.rd [0]
                    · intro fH TH
                      exact ⟨rfl, rfl⟩
                    apply NDr.pure
                    · exact ⟨rfl, rfl⟩
                    apply NDr.pure
                    · refine NP.mk (by omega) ?_
                      refine NG.mapN (by omega) ?_
                      exact ⟨rfl, rfl⟩
                    apply NDr.pure
                    · exact ⟨rfl, rfl⟩
                    apply NDr.pure
                    · exact ⟨rfl, rfl⟩
                    apply NDr.rd [0]
                    · intro fH TH
                      exact ⟨rfl, rfl⟩
                    apply NDr.rd [0]
                    · intro fH TH
                      exact ⟨rfl, rfl⟩
                    apply NDr.pure
                    · refine NP.mk (by omega) ?_
                      refine NG.map (by omega) ?_
                      exact ⟨rfl, rfl⟩
                    apply NDr.pure
                    · exact ⟨rfl, rfl⟩
                    apply NDr.pure
                    · exact ⟨rfl, rfl⟩
                    apply NDr.pure
                    · refine ND.yes (by omega) ?_
                      exact ⟨rfl, rfl⟩
                    apply NDr.pure
                    · exact ⟨rfl, rfl⟩
                    apply NDr.rd [0]
                    · intro fH TH
                      exact ⟨rfl, rfl⟩
                    apply NDr.rd [0]
                    · intro fH TH
                      exact ⟨rfl, rfl⟩
                    apply NDr.pure
                    · exact ⟨rfl, rfl⟩
                    apply NDr.pure
                    · refine NP.mk (by omega) ?_
                      refine NG.mapN (by omega) ?_
                      exact ⟨rfl, rfl⟩
                    apply NDr.pure
                    · exact ⟨rfl, rfl⟩
                    apply NDr.pure
                    · exact ⟨rfl, rfl⟩
                    apply NDr.rd [0]
                    · intro fH TH
                      exact ⟨rfl, rfl⟩
                    apply NDr.rd [0]
                    · intro fH TH
                      exact ⟨rfl, rfl⟩
                    apply NDr.pure
                    · refine NP.mk (by omega) ?_
                      refine NG.map (by omega) ?_
                      exact ⟨rfl, rfl⟩
                    apply NDr.pure
                    · exact ⟨rfl, rfl⟩
                    apply NDr.pure
                    · exact ⟨rfl, rfl⟩
                    apply NDr.pure
                    · exact ⟨rfl, rfl⟩
                    apply NDr.pure
                    · refine NW.i64 (by omega) (by omega) ?_
                      exact ⟨rfl, rfl⟩
                    apply NDr.pure
                    · refine ND.yes (by omega) ?_
                      exact ⟨rfl, rfl⟩
                    apply NDr.pure
                    · exact ⟨rfl, rfl⟩
                    refine NP.mk (by kernel_rfl) ?_
                    refine NW.i64 (by omega) (by omega) ?_
                    exact Canon.mk [0] rfl ⟨((⟨q.most, q.list ++ [l[i].t]⟩ : Queue)).list.length + 1 - (k + 1), by omega, k + 1, by omega, by omega, rfl, rfl, rfl⟩
                  · refine ND.no (by omega) ?_
                    refine NW.i64 (by omega) (by omega) ?_
                    exact Canon.mk [0] rfl ⟨40 - (i + 1), by omega, i + 1, (⟨q.most, q.list ++ [l[i].t]⟩ : Queue), by omega, rfl, hg1, hmost, rfl, rfl⟩
              · rw [pushQ_bad rfl hp] at a2
                refine ND.yes (by (simp only [List.length_map, List.length_append, List.length_replicate, List.length_cons, List.length_nil, List.length_take, List.length_drop]; omega)) ?_
                refine ND.yes (by omega) ?_
                refine NP.mk (by omega) ?_
                refine NG.mapN (by omega) ?_
                refine NCall.call (s2) rfl rfl ?_
                refine NB.no (by assumption) ?_
                refine NCall.call (a2) rfl rfl ?_
                refine ND.no (by omega) ?_
                refine ND.no (by omega) ?_
                have hgc := hg0
                obtain ⟨⟨hsq', h16'⟩, hql', ⟨n', s', hc'⟩, hf'⟩ := hgc
                have hml' : ((q).list.map txnA).length = (q).list.length := by simp
                have hl30 := hsq'.1
                refine NLoop.mk [] [0, 1, 5, 7, 13] (fun m vs H => ∃ k : Nat, 1 ≤ k ∧ k ≤ (q).list.length + 1 ∧ m = (q).list.length + 1 - k ∧ H = [.row .box (.agg 2) [queueA (q)]] ∧ vs = [i64 most, .list (.agg 6) (l.map qopA), .ptr 0 0 0, i64 i, i64 k]) rfl ?_ ?_
                · exact Canon.mk [0] rfl ⟨(q).list.length + 1 - 1, 1, by omega, by omega, rfl, rfl, rfl⟩
                · rintro m vs H ⟨k, hk1, hk2, rfl, rfl, rfl⟩
                  by_cases hkl : k < (q).list.length
                  · have c0 := hc' 0 (by omega)
                    have ck := hc' k hkl
                    have f0 := formed_okN (hf' _ (List.getElem_mem (show 0 < (q).list.length by omega)))
                    have fk := formed_okN (hf' _ (List.getElem_mem hkl))
                    unfold okN at f0 fk
                    have c0' : (q).list[Int.toNat 0].node = n' ∧ (q).list[Int.toNat 0].seq = s' := ⟨c0.1, c0.2.trans (by omega)⟩
                    refine ND.yes (by omega) ?_
                    refine NP.mk (by kernel_rfl) ?_
                    apply NDr.rd [0]
                    · intro fH TH
                      exact ⟨rfl, rfl⟩
                    apply NDr.rd [0]
                    · intro fH TH
                      exact ⟨rfl, rfl⟩
                    apply NDr.pure
                    · exact ⟨rfl, rfl⟩
                    apply NDr.pure
                    · refine NP.mk (by omega) ?_
                      refine NG.mapN (by omega) ?_
                      exact ⟨rfl, rfl⟩
                    apply NDr.pure
                    · exact ⟨rfl, rfl⟩
                    apply NDr.pure
                    · exact ⟨rfl, rfl⟩
                    apply NDr.rd [0]
                    · intro fH TH
                      exact ⟨rfl, rfl⟩
                    apply NDr.rd [0]
                    · intro fH TH
                      exact ⟨rfl, rfl⟩
                    apply NDr.pure
                    · refine NP.mk (by omega) ?_
                      refine NG.map (by omega) ?_
                      exact ⟨rfl, rfl⟩
                    apply NDr.pure
                    · exact ⟨rfl, rfl⟩
                    apply NDr.pure
                    · exact ⟨rfl, rfl⟩
                    apply NDr.pure
                    · refine ND.yes (by omega) ?_
                      exact ⟨rfl, rfl⟩
                    apply NDr.pure
                    · exact ⟨rfl, rfl⟩
                    apply NDr.rd [0]
                    · intro fH TH
                      exact ⟨rfl, rfl⟩
                    apply NDr.rd [0]
                    · intro fH TH
                      exact ⟨rfl, rfl⟩
                    apply NDr.pure
                    · exact ⟨rfl, rfl⟩
                    apply NDr.pure
                    · refine NP.mk (by omega) ?_
                      refine NG.mapN (by omega) ?_
                      exact ⟨rfl, rfl⟩
                    apply NDr.pure
                    · exact ⟨rfl, rfl⟩
                    apply NDr.pure
                    · exact ⟨rfl, rfl⟩
                    apply NDr.rd [0]
                    · intro fH TH
                      exact ⟨rfl, rfl⟩
                    apply NDr.rd [0]
                    · intro fH TH
                      exact ⟨rfl, rfl⟩
                    apply NDr.pure
                    · refine NP.mk (by omega) ?_
                      refine NG.map (by omega) ?_
                      exact ⟨rfl, rfl⟩
                    apply NDr.pure
                    · exact ⟨rfl, rfl⟩
                    apply NDr.pure
                    · exact ⟨rfl, rfl⟩
                    apply NDr.pure
                    · exact ⟨rfl, rfl⟩
                    apply NDr.pure
                    · refine NW.i64 (by omega) (by omega) ?_
                      exact ⟨rfl, rfl⟩
                    apply NDr.pure
                    · refine ND.yes (by omega) ?_
                      exact ⟨rfl, rfl⟩
                    apply NDr.pure
                    · exact ⟨rfl, rfl⟩
                    refine NP.mk (by kernel_rfl) ?_
                    refine NW.i64 (by omega) (by omega) ?_
                    exact Canon.mk [0] rfl ⟨(q).list.length + 1 - (k + 1), by omega, k + 1, by omega, by omega, rfl, rfl, rfl⟩
                  · refine ND.no (by omega) ?_
                    refine NW.i64 (by omega) (by omega) ?_
                    exact Canon.mk [0] rfl ⟨40 - (i + 1), by omega, i + 1, q, by omega, rfl, hg0, hmost, rfl, rfl⟩
          | false =>
            rw [h2] at s2
            refine ND.yes (by (simp only [List.length_map, List.length_append, List.length_replicate, List.length_cons, List.length_nil, List.length_take, List.length_drop]; omega)) ?_
            refine ND.yes (by omega) ?_
            refine NP.mk (by omega) ?_
            refine NG.mapN (by omega) ?_
            refine NCall.call (s2) rfl rfl ?_
            exact NRet.mk [] rfl ⟨.refl _, rfl⟩
        · refine ND.yes (by (simp only [List.length_map, List.length_append, List.length_replicate, List.length_cons, List.length_nil, List.length_take, List.length_drop]; omega)) ?_
          refine ND.no (by omega) ?_
          exact NRet.mk [] rfl ⟨.refl _, rfl⟩
      · refine ND.no (by (simp only [List.length_map, List.length_append, List.length_replicate, List.length_cons, List.length_nil, List.length_take, List.length_drop]; omega)) ?_
        exact NRet.mk [] rfl ⟨.refl _, rfl⟩
  · rw [if_neg hm] at a1
    by_cases hm0 : most < 0
    · refine NCall.call (awake20) rfl rfl ?_
      refine NCall.call (a1) rfl rfl ?_
      refine ND.no (by omega) ?_
      refine ND.yes (by omega) ?_
      exact NRet.mk [] rfl ⟨.refl _, rfl⟩
    · refine NCall.call (awake20) rfl rfl ?_
      refine NCall.call (a1) rfl rfl ?_
      refine ND.no (by omega) ?_
      refine ND.no (by omega) ?_
      refine ND.yes (by omega) ?_
      exact NRet.mk [] rfl ⟨.refl _, rfl⟩
end Go.Bv
