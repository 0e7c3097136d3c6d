/- Part of the lift: an abstract walk of the program's code, proved sound, and what it shows of this program. -/
import Derived.Test.YtkehoabgejdpgaaSvPast
namespace Go.Bv
set_option linter.unusedSimpArgs false
set_option linter.unusedVariables false
set_option maxHeartbeats 4000000
set_option maxRecDepth 20000
open Go Go.Proofs

theorem shortP_sm {p : Past} (h : shortP p = true) (ho : okPast p) : p.floor.length ≤ 60 ∧ p.list.length ≤ 24 ∧ smP p := by
  unfold shortP at h
  rw [Bool.and_eq_true] at h
  have h1 := of_decide_eq_true h.1
  obtain ⟨h2, h3⟩ := shortT_sm h.2 ho.2.2
  exact ⟨h1, h2, by omega, by omega, h3⟩
theorem sameP {p : Past} (h : smP p) : ACalls Try.prog Nm.ref16_Same [pastA p, pastA p] [] (.bool true) [] := by
  have := same16_walk p p h
  rwa [decide_eq_true rfl] at this
theorem smP_prune {p : Past} {to : List Int} (h : smP p) (ht : to.length ≤ 2 ^ 30) : smP (pruneP p to) := by
  have h1 := endP_len p
  have h2 := meet_len to (endP p)
  have h3 := join_len p.floor (meet to (endP p))
  refine ⟨by show (pruneF p to).length ≤ _; unfold pruneF; have := h.1; omega, Nat.le_trans (leftB_len _ _) h.2.1, fun t ht => h.2.2 t (List.mem_filter.1 ht).1⟩
theorem left_sm {l : List Txn} {v : List Int} (h : ∀ t ∈ l, smTxn t) : ∀ t ∈ leftB l v, smTxn t := fun t ht => h t (List.mem_filter.1 ht).1
theorem sameAll_refl {l : List Txn} (hl : l.length ≤ 2 ^ 40) (h : ∀ t ∈ l, smTxn t) : ACalls Try.prog Nm.ref13_SameAll [txnsA l, txnsA l] [] (.bool true) [] := by
  have := sameAll_walk l l hl h
  rwa [decide_eq_true rfl] at this
theorem equal_refl {v : List Int} (hv : v.length ≤ 2 ^ 40) : ACalls Try.prog Nm.ref07_Equal [ints v, ints v] [] (.bool true) [] := by
  have := equal7_walk v v hv
  rwa [decide_eq_true rfl] at this
theorem awake16 : ACalls Try.prog Nm.law16_awake [] [] (.bool true) [] := by
  refine ACalls_of tab (dr_snd tab mixed) Nm.law16_awake_h rfl (by kernel_rfl) (Nat.le_of_ble_eq_true rfl) rfl ?_
  have s1 : smTxn ⟨0, 1, [], []⟩ := by simp [smTxn, okInt]
  have h1 := keep_walk ⟨[], []⟩ ⟨0, 1, [], []⟩ ⟨by simp, by simp, by simp⟩ s1 (by simp)
  rw [show keepP ⟨[], []⟩ ⟨0, 1, [], []⟩ = 0 by decide, show keptP ⟨[], []⟩ ⟨0, 1, [], []⟩ = ⟨[], [⟨0, 1, [], []⟩]⟩ by decide] at h1
  have sp : smP ⟨[], [⟨0, 1, [], []⟩]⟩ := ⟨by simp, by simp, by simpa using s1⟩
  have h2 := since_walk ⟨[], [⟨0, 1, [], []⟩]⟩ [] sp (by simp)
  rw [if_pos (by decide), show leftB [⟨0, 1, [], []⟩] [] = [⟨0, 1, [], []⟩] by decide] at h2
  have h3 := end_walk ⟨[], [⟨0, 1, [], []⟩]⟩ sp
  rw [show endP ⟨[], [⟨0, 1, [], []⟩]⟩ = [1] by decide] at h3
  have h4 := sound_walk ⟨[], [⟨0, 1, [], []⟩]⟩ sp
  rw [show soundP ⟨[], [⟨0, 1, [], []⟩]⟩ = true by decide] at h4
  have h5 := equal_refl (v := [1]) (by simp)
  refine NCall.call (ACalls.args (h1) (by repeat (first | exact LeA.refl _ | exact LeA.nils _ | refine LeA.agg ?_ | refine LeA.list _ ?_ | exact LeAs.nil | refine LeAs.cons ?_ ?_))) rfl rfl ?_
  refine NCall.call (ACalls.args (h2) (by repeat (first | exact LeA.refl _ | exact LeA.nils _ | refine LeA.agg ?_ | refine LeA.list _ ?_ | exact LeAs.nil | refine LeAs.cons ?_ ?_))) rfl rfl ?_
  refine ND.yes (by omega) ?_
  refine ND.yes (by omega) ?_
  refine ND.yes (by rfl) ?_
  refine NCall.call (h3) rfl rfl ?_
  refine NCall.call (h5) rfl rfl ?_
  refine NCall.call (h4) rfl rfl ?_
  exact NRet.mk [] rfl ⟨.refl _, rfl⟩
theorem pastGrows_walk (p : Past) (t : Txn) (v : List Int) (hp : okPast p) (ht : okTxn t) (hv : v.length ≤ reachBytes) : ACalls Try.prog Nm.law16_PastGrows [pastA p, txnA t, ints v] [] (.bool true) [] := by
  refine ACalls_of tab (dr_snd tab mixed) Nm.law16_PastGrows_h rfl (by kernel_rfl) (Nat.le_of_ble_eq_true rfl) rfl ?_
  have hv := okV hv
  have s1 := short16_walk p hp
  have s2 := short13_walk [t] (by simp) (by simpa using ht)
  cases h1 : shortP p with
  | false =>
    rw [h1] at s1
    refine NCall.call (awake16) rfl rfl ?_
    refine NCall.call (s1) rfl rfl ?_
    exact NRet.mk [] rfl ⟨.refl _, rfl⟩
  | true =>
    rw [h1] at s1
    obtain ⟨g1, g2, sp⟩ := shortP_sm h1 hp
    cases h2 : shortT [t] with
    | false =>
      rw [h2] at s2
      refine NCall.call (awake16) rfl rfl ?_
      refine NCall.call (s1) rfl rfl ?_
      refine NCall.call (s2) rfl rfl ?_
      exact NRet.mk [] rfl ⟨.refl _, rfl⟩
    | true =>
      rw [h2] at s2
      have st := short1_sm h2 ht
      by_cases hv0 : v.length ≤ 60
      · have a1 := keep_walk p t sp st (by omega)
        by_cases hk : keepP p t = 0
        · rw [hk, show keptP p t = ⟨p.floor, p.list ++ [t]⟩ by unfold keptP; simp [hk]] at a1
          have sq : smP ⟨p.floor, p.list ++ [t]⟩ := ⟨sp.1, by simp; omega, fun x hx => by
            rcases List.mem_append.1 hx with hx | hx
            · exact sp.2.2 x hx
            · rw [List.mem_singleton.1 hx]; exact st⟩
          have a2 := since_walk p v sp (by omega)
          have a3 := since_walk ⟨p.floor, p.list ++ [t]⟩ v sq (by omega)
          cases hw : vwithin p.floor v with
          | false =>
            rw [if_neg (by simp [hw])] at a2 a3
            refine NCall.call (awake16) rfl rfl ?_
            refine NCall.call (s1) rfl rfl ?_
            refine NCall.call (s2) rfl rfl ?_
            refine ND.no (by (simp only [List.length_map, List.length_append, List.length_replicate, List.length_cons, List.length_nil, List.length_take, List.length_drop]; omega)) ?_
            refine NCall.call (a1) rfl rfl ?_
            refine ND.yes (by omega) ?_
            refine NCall.call (a2) rfl rfl ?_
            refine NCall.call (a3) rfl rfl ?_
            refine ND.yes (by omega) ?_
            refine ND.no (by omega) ?_
            refine ND.yes (by omega) ?_
            exact NRet.mk [] rfl ⟨.refl _, rfl⟩
          | true =>
            rw [if_pos hw] at a2 a3
            have a4 : ACalls Try.prog Nm.vec_Has [ints v, .agg [i64 t.node, i64 t.seq, i64 0]] [] (.bool (hasT v t)) [] := vecHas_walk v t.node t.seq 0 (by omega)
            rw [leftB_snoc] at a3
            have hll := leftB_len p.list v
            have a5 := sameAll_refl (l := leftB p.list v) (by omega) (left_sm sp.2.2)
            have a6 := sameV_dec st
            cases hh : hasT v t with
            | true =>
              rw [hh] at a4
              rw [hh, if_pos rfl, List.append_nil] at a3
              refine NCall.call (awake16) rfl rfl ?_
              refine NCall.call (s1) rfl rfl ?_
              refine NCall.call (s2) rfl rfl ?_
              refine ND.no (by (simp only [List.length_map, List.length_append, List.length_replicate, List.length_cons, List.length_nil, List.length_take, List.length_drop]; omega)) ?_
              refine NCall.call (a1) rfl rfl ?_
              refine ND.yes (by omega) ?_
              refine NCall.call (a2) rfl rfl ?_
              refine NCall.call (a3) rfl rfl ?_
              refine ND.yes (by omega) ?_
              refine ND.yes (by omega) ?_
              refine NCall.call (a4) rfl rfl ?_
              refine NCall.call (a5) rfl rfl ?_
              exact NRet.mk [] rfl ⟨.refl _, rfl⟩
            | false =>
              rw [hh] at a4
              rw [hh, if_neg (by simp)] at a3
              have c1 : ACalls Try.prog Nm.ref13_SameAll [.list (.agg 4) (List.take ((leftB p.list v).length : Int).toNat ((leftB p.list v ++ [t]).map txnA)), txnsA (leftB p.list v)] [] (.bool true) [] := by
                have e : AV.list (.agg 4) (List.take ((leftB p.list v).length : Int).toNat ((leftB p.list v ++ [t]).map txnA)) = txnsA (leftB p.list v) := by simp [txnsA]
                rw [e]; exact a5
              have hi : ((leftB p.list v).map txnA).length < (leftB p.list v ++ [t]).length := by simp
              have ee : (leftB p.list v ++ [t])[((leftB p.list v).map txnA).length]'hi = t := by simp
              have c2 := same13_walk ((leftB p.list v ++ [t])[((leftB p.list v).map txnA).length]'hi) t (by rw [ee]; exact st)
              rw [decide_eq_true ee] at c2
              have hi3 : (leftB p.list v).length < (leftB p.list v ++ [t]).length := by simp
              have e3 : (leftB p.list v ++ [t])[(leftB p.list v).length]'hi3 = t := by simp
              have c3 := same13_walk ((leftB p.list v ++ [t])[(leftB p.list v).length]'hi3) t (by rw [e3]; exact st)
              rw [decide_eq_true e3] at c3
              refine NCall.call (awake16) rfl rfl ?_
              refine NCall.call (s1) rfl rfl ?_
              refine NCall.call (s2) rfl rfl ?_
              refine ND.no (by (simp only [List.length_map, List.length_append, List.length_replicate, List.length_cons, List.length_nil, List.length_take, List.length_drop]; omega)) ?_
              refine NCall.call (a1) rfl rfl ?_
              refine ND.yes (by omega) ?_
              refine NCall.call (a2) rfl rfl ?_
              refine NCall.call (a3) rfl rfl ?_
              refine ND.yes (by omega) ?_
              refine ND.yes (by omega) ?_
              refine NCall.call (a4) rfl rfl ?_
              refine NP.mk (by kernel_rfl) ?_
              apply NDr.pure
              · exact ⟨rfl, rfl⟩
              apply NDr.pure
              · exact ⟨rfl, rfl⟩
              apply NDr.pure
              · exact ⟨rfl, rfl⟩
              apply NDr.pure
              · exact ⟨rfl, rfl⟩
              apply NDr.pure
              · refine NW.i64 (by (simp only [List.length_map, List.length_append, List.length_replicate, List.length_cons, List.length_nil, List.length_take, List.length_drop]; omega)) (by (simp only [List.length_map, List.length_append, List.length_replicate, List.length_cons, List.length_nil, List.length_take, List.length_drop]; omega)) ?_
                exact ⟨rfl, rfl⟩
              apply NDr.pure
              · refine ND.yes (by (simp only [List.length_map, List.length_append, List.length_replicate, List.length_cons, List.length_nil, List.length_take, List.length_drop]; omega)) ?_
                exact ⟨rfl, rfl⟩
              apply NDr.pure
              · exact ⟨rfl, rfl⟩
              apply NDr.pure
              · exact ⟨rfl, rfl⟩
              apply NDr.pure
              · exact ⟨rfl, rfl⟩
              apply NDr.pure
              · exact ⟨rfl, rfl⟩
              apply NDr.pure
              · refine NP.mk (by (simp only [List.length_map, List.length_append, List.length_replicate, List.length_cons, List.length_nil, List.length_take, List.length_drop]; omega)) ?_
                exact ⟨rfl, rfl⟩
              apply NDr.pure
              · exact ⟨rfl, rfl⟩
              apply NDr.pure
              · refine NCall.eq (by simp only [List.length_map] <;> exact rfl) ?_
                refine NCall.call (c1) rfl rfl ?_
                exact ⟨rfl, rfl⟩
              apply NDr.pure
              · exact ⟨rfl, rfl⟩
              apply NDr.pure
              · exact ⟨rfl, rfl⟩
              apply NDr.pure
              · exact ⟨rfl, rfl⟩
              apply NDr.pure
              · exact ⟨rfl, rfl⟩
              apply NDr.pure
              · exact ⟨rfl, rfl⟩
              apply NDr.pure
              · refine NP.mk (by omega) ?_
                refine NG.mapN (by omega) ?_
                exact ⟨rfl, rfl⟩
              apply NDr.pure
              · exact ⟨rfl, rfl⟩
              apply NDr.rd [1]
              · intro fH TH
                exact ⟨rfl, rfl⟩
              apply NDr.pure
              · refine NCall.eq (by simp only [List.length_map] <;> exact rfl) ?_
                refine NCall.call (c3) rfl rfl ?_
                exact ⟨rfl, rfl⟩
              apply NDr.pure
              · exact ⟨rfl, rfl⟩
              apply NDr.pure
              · exact ⟨rfl, rfl⟩
              refine NP.mk (by kernel_rfl) ?_
              exact NRet.mk [] rfl ⟨.refl _, rfl⟩
        · rw [show keptP p t = ⟨[], []⟩ by unfold keptP; simp [hk]] at a1
          refine NCall.call (awake16) rfl rfl ?_
          refine NCall.call (s1) rfl rfl ?_
          refine NCall.call (s2) rfl rfl ?_
          refine ND.no (by (simp only [List.length_map, List.length_append, List.length_replicate, List.length_cons, List.length_nil, List.length_take, List.length_drop]; omega)) ?_
          refine NCall.call (a1) rfl rfl ?_
          refine ND.no (by omega) ?_
          refine ND.yes (by rfl) ?_
          exact NRet.mk [] rfl ⟨.refl _, rfl⟩
      · refine NCall.call (awake16) rfl rfl ?_
        refine NCall.call (s1) rfl rfl ?_
        refine NCall.call (s2) rfl rfl ?_
        refine ND.yes (by (simp only [List.length_map, List.length_append, List.length_replicate, List.length_cons, List.length_nil, List.length_take, List.length_drop]; omega)) ?_
        exact NRet.mk [] rfl ⟨.refl _, rfl⟩
theorem pastTwice_walk (p : Past) (to : List Int) (hp : okPast p) (hto : to.length ≤ reachBytes) : ACalls Try.prog Nm.law16_PastTwice [pastA p, ints to] [] (.bool true) [] := by
  refine ACalls_of tab (dr_snd tab mixed) Nm.law16_PastTwice_h rfl (by kernel_rfl) (Nat.le_of_ble_eq_true rfl) rfl ?_
  have hto := okV hto
  have s1 := short16_walk p hp
  cases h1 : shortP p with
  | false =>
    rw [h1] at s1
    refine NCall.call (awake16) rfl rfl ?_
    refine NP.mk (by kernel_rfl) ?_
    apply NDr.rd [0]
    · intro fH TH
      exact ⟨rfl, rfl⟩
    apply NDr.pure
    · refine NCall.call (s1) rfl rfl ?_
      exact ⟨rfl, rfl⟩
    apply NDr.pure
    · exact ⟨rfl, rfl⟩
    apply NDr.pure
    · exact ⟨rfl, rfl⟩
    apply NDr.pure
    · exact ⟨rfl, rfl⟩
    apply NDr.pure
    · exact ⟨rfl, rfl⟩
    apply NDr.pure
    · exact ⟨rfl, rfl⟩
    apply NDr.pure
    · exact ⟨rfl, rfl⟩
    apply NDr.pure
    · exact ⟨rfl, rfl⟩
    refine NP.mk (by kernel_rfl) ?_
    exact NRet.mk [] rfl ⟨.refl _, rfl⟩
  | true =>
    rw [h1] at s1
    obtain ⟨g1, g2, sp⟩ := shortP_sm h1 hp
    by_cases ht0 : to.length ≤ 60
    · have a1 := sound_walk p sp
      cases hs : soundP p with
      | false =>
        rw [hs] at a1
        refine NCall.call (awake16) rfl rfl ?_
        refine NP.mk (by kernel_rfl) ?_
        apply NDr.rd [0]
        · intro fH TH
          exact ⟨rfl, rfl⟩
        apply NDr.pure
        · refine NCall.call (s1) rfl rfl ?_
          exact ⟨rfl, rfl⟩
        apply NDr.pure
        · exact ⟨rfl, rfl⟩
        apply NDr.pure
        · exact ⟨rfl, rfl⟩
        apply NDr.pure
        · exact ⟨rfl, rfl⟩
        apply NDr.pure
        · exact ⟨rfl, rfl⟩
        apply NDr.pure
        · refine ND.no (by (simp only [List.length_map, List.length_append, List.length_replicate, List.length_cons, List.length_nil, List.length_take, List.length_drop]; omega)) ?_
          exact ⟨rfl, rfl⟩
        apply NDr.pure
        · exact ⟨rfl, rfl⟩
        apply NDr.pure
        · exact ⟨rfl, rfl⟩
        apply NDr.rd [0]
        · intro fH TH
          exact ⟨rfl, rfl⟩
        apply NDr.pure
        · refine NCall.call (a1) rfl rfl ?_
          exact ⟨rfl, rfl⟩
        apply NDr.pure
        · exact ⟨rfl, rfl⟩
        apply NDr.pure
        · exact ⟨rfl, rfl⟩
        apply NDr.pure
        · exact ⟨rfl, rfl⟩
        apply NDr.pure
        · exact ⟨rfl, rfl⟩
        refine NP.mk (by kernel_rfl) ?_
        exact NRet.mk [] rfl ⟨.refl _, rfl⟩
      | true =>
        rw [hs] at a1
        have el := endP_len p
        have ml := meet_len to (endP p)
        have jl := join_len p.floor (meet to (endP p))
        have a2 := end_walk p sp
        have a3 := vecMeet_walk to (endP p) (by omega) (by omega)
        have a4 := vecJoin_walk p.floor (meet to (endP p)) (by omega) (by omega)
        have a5 := closed16_walk p.list (join p.floor (meet to (endP p))) sp.2.1 sp.2.2 (by omega)
        have b1 := prune_walk p to sp (by omega)
        have sq := smP_prune (to := to) sp (by omega)
        have b2 := prune_walk (pruneP p to) to sq (by omega)
        rw [prune_twice to hs] at b2
        have b3 := prune_walk p [] sp (by simp)
        rw [prune_nil hs] at b3
        have b4 := sameP sq
        have b5 := sameP sp
        refine NCall.call (awake16) rfl rfl ?_
        refine NP.mk (by kernel_rfl) ?_
        apply NDr.rd [0]
        · intro fH TH
          exact ⟨rfl, rfl⟩
        apply NDr.pure
        · refine NCall.call (s1) rfl rfl ?_
          exact ⟨rfl, rfl⟩
        apply NDr.pure
        · exact ⟨rfl, rfl⟩
        apply NDr.pure
        · exact ⟨rfl, rfl⟩
        apply NDr.pure
        · exact ⟨rfl, rfl⟩
        apply NDr.pure
        · exact ⟨rfl, rfl⟩
        apply NDr.pure
        · refine ND.no (by (simp only [List.length_map, List.length_append, List.length_replicate, List.length_cons, List.length_nil, List.length_take, List.length_drop]; omega)) ?_
          exact ⟨rfl, rfl⟩
        apply NDr.pure
        · exact ⟨rfl, rfl⟩
        apply NDr.pure
        · exact ⟨rfl, rfl⟩
        apply NDr.rd [0]
        · intro fH TH
          exact ⟨rfl, rfl⟩
        apply NDr.pure
        · refine NCall.call (a1) rfl rfl ?_
          exact ⟨rfl, rfl⟩
        apply NDr.pure
        · exact ⟨rfl, rfl⟩
        apply NDr.pure
        · exact ⟨rfl, rfl⟩
        apply NDr.pure
        · exact ⟨rfl, rfl⟩
        apply NDr.rd [0]
        · intro fH TH
          exact ⟨rfl, rfl⟩
        apply NDr.rd [0]
        · intro fH TH
          exact ⟨rfl, rfl⟩
        apply NDr.rd [0]
        · intro fH TH
          exact ⟨rfl, rfl⟩
        apply NDr.rd [0]
        · intro fH TH
          exact ⟨rfl, rfl⟩
        apply NDr.pure
        · exact ⟨rfl, rfl⟩
        apply NDr.rd [0]
        · intro fH TH
          exact ⟨rfl, rfl⟩
        apply NDr.pure
        · refine NCall.call (a2) rfl rfl ?_
          exact ⟨rfl, rfl⟩
        apply NDr.pure
        · refine NCall.call (a3) rfl rfl ?_
          exact ⟨rfl, rfl⟩
        apply NDr.pure
        · refine NCall.call (a4) rfl rfl ?_
          exact ⟨rfl, rfl⟩
        apply NDr.pure
        · refine NCall.call (a5) rfl rfl ?_
          exact ⟨rfl, rfl⟩
        apply NDr.pure
        · exact NB.det0'
        apply NDr.pure
        · exact ⟨rfl, rfl⟩
        refine NP.mk (by kernel_rfl) ?_
        refine NB.mk (fun hk2 => ?_) (fun hk2 => ?_)
        · exact NRet.mk [] rfl ⟨.refl _, rfl⟩
        refine NCall.call (b1) rfl rfl ?_
        refine NP.mk (by kernel_rfl) ?_
        apply NDr.rd [1]
        · intro fH TH
          exact ⟨rfl, rfl⟩
        apply NDr.pure
        · exact ⟨rfl, rfl⟩
        apply NDr.pure
        · refine NCall.call (b2) rfl rfl ?_
          exact ⟨rfl, rfl⟩
        apply NDr.rd [1]
        · intro fH TH
          exact ⟨rfl, rfl⟩
        apply NDr.pure
        · refine NCall.call (b4) rfl rfl ?_
          exact ⟨rfl, rfl⟩
        apply NDr.pure
        · exact ⟨rfl, rfl⟩
        apply NDr.rd [0]
        · intro fH TH
          exact ⟨rfl, rfl⟩
        apply NDr.pure
        · refine NCall.call (ACalls.args (b3) (by repeat (first | exact LeA.refl _ | exact LeA.nils _ | refine LeA.agg ?_ | refine LeA.list _ ?_ | exact LeAs.nil | refine LeAs.cons ?_ ?_))) rfl rfl ?_
          exact ⟨rfl, rfl⟩
        apply NDr.rd [0]
        · intro fH TH
          exact ⟨rfl, rfl⟩
        apply NDr.pure
        · refine NCall.call (b5) rfl rfl ?_
          exact ⟨rfl, rfl⟩
        apply NDr.pure
        · exact ⟨rfl, rfl⟩
        apply NDr.pure
        · exact ⟨rfl, rfl⟩
        refine NP.mk (by kernel_rfl) ?_
        exact NRet.mk [] rfl ⟨.refl _, rfl⟩
    · refine NCall.call (awake16) rfl rfl ?_
      refine NP.mk (by kernel_rfl) ?_
      apply NDr.rd [0]
      · intro fH TH
        exact ⟨rfl, rfl⟩
      apply NDr.pure
      · refine NCall.call (s1) rfl rfl ?_
        exact ⟨rfl, rfl⟩
      apply NDr.pure
      · exact ⟨rfl, rfl⟩
      apply NDr.pure
      · exact ⟨rfl, rfl⟩
      apply NDr.pure
      · exact ⟨rfl, rfl⟩
      apply NDr.pure
      · exact ⟨rfl, rfl⟩
      apply NDr.pure
      · refine ND.yes (by (simp only [List.length_map, List.length_append, List.length_replicate, List.length_cons, List.length_nil, List.length_take, List.length_drop]; omega)) ?_
        exact ⟨rfl, rfl⟩
      apply NDr.pure
      · exact ⟨rfl, rfl⟩
      apply NDr.pure
      · exact ⟨rfl, rfl⟩
      apply NDr.pure
      · exact ⟨rfl, rfl⟩
      apply NDr.pure
      · exact ⟨rfl, rfl⟩
      apply NDr.pure
      · exact ⟨rfl, rfl⟩
      refine NP.mk (by kernel_rfl) ?_
      exact NRet.mk [] rfl ⟨.refl _, rfl⟩
theorem pastPruned_walk (p : Past) (to v : List Int) (hp : okPast p) (hto : to.length ≤ reachBytes) (hv : v.length ≤ reachBytes) : ACalls Try.prog Nm.law16_PastPruned [pastA p, ints to, ints v] [] (.bool true) [] := by
  refine ACalls_of tab (dr_snd tab mixed) Nm.law16_PastPruned_h rfl (by kernel_rfl) (Nat.le_of_ble_eq_true rfl) rfl ?_
  have hto := okV hto
  have hv := okV hv
  have s1 := short16_walk p hp
  cases h1 : shortP p with
  | false =>
    rw [h1] at s1
    refine NCall.call (awake16) rfl rfl ?_
    refine NP.mk (by kernel_rfl) ?_
    apply NDr.rd [0]
    · intro fH TH
      exact ⟨rfl, rfl⟩
    apply NDr.pure
    · refine NCall.call (s1) rfl rfl ?_
      exact ⟨rfl, rfl⟩
    apply NDr.pure
    · exact ⟨rfl, rfl⟩
    apply NDr.pure
    · exact ⟨rfl, rfl⟩
    apply NDr.pure
    · exact ⟨rfl, rfl⟩
    apply NDr.pure
    · exact ⟨rfl, rfl⟩
    apply NDr.pure
    · exact ⟨rfl, rfl⟩
    apply NDr.pure
    · exact ⟨rfl, rfl⟩
    apply NDr.pure
    · exact ⟨rfl, rfl⟩
    apply NDr.pure
    · exact ⟨rfl, rfl⟩
    apply NDr.pure
    · exact ⟨rfl, rfl⟩
    refine NP.mk (by kernel_rfl) ?_
    exact NRet.mk [] rfl ⟨.refl _, rfl⟩
  | true =>
    rw [h1] at s1
    obtain ⟨g1, g2, sp⟩ := shortP_sm h1 hp
    by_cases ht0 : to.length ≤ 60
    · by_cases hv0 : v.length ≤ 60
      · have a1 := sound_walk p sp
        cases hs : soundP p with
        | false =>
          rw [hs] at a1
          refine NCall.call (awake16) rfl rfl ?_
          refine NP.mk (by kernel_rfl) ?_
          apply NDr.rd [0]
          · intro fH TH
            exact ⟨rfl, rfl⟩
          apply NDr.pure
          · refine NCall.call (s1) rfl rfl ?_
            exact ⟨rfl, rfl⟩
          apply NDr.pure
          · exact ⟨rfl, rfl⟩
          apply NDr.pure
          · exact ⟨rfl, rfl⟩
          apply NDr.pure
          · exact ⟨rfl, rfl⟩
          apply NDr.pure
          · exact ⟨rfl, rfl⟩
          apply NDr.pure
          · refine ND.no (by (simp only [List.length_map, List.length_append, List.length_replicate, List.length_cons, List.length_nil, List.length_take, List.length_drop]; omega)) ?_
            exact ⟨rfl, rfl⟩
          apply NDr.pure
          · exact ⟨rfl, rfl⟩
          apply NDr.pure
          · exact ⟨rfl, rfl⟩
          apply NDr.pure
          · exact ⟨rfl, rfl⟩
          apply NDr.pure
          · exact ⟨rfl, rfl⟩
          apply NDr.pure
          · refine ND.no (by (simp only [List.length_map, List.length_append, List.length_replicate, List.length_cons, List.length_nil, List.length_take, List.length_drop]; omega)) ?_
            exact ⟨rfl, rfl⟩
          apply NDr.pure
          · exact ⟨rfl, rfl⟩
          apply NDr.pure
          · exact ⟨rfl, rfl⟩
          apply NDr.rd [0]
          · intro fH TH
            exact ⟨rfl, rfl⟩
          apply NDr.pure
          · refine NCall.call (a1) rfl rfl ?_
            exact ⟨rfl, rfl⟩
          apply NDr.pure
          · exact ⟨rfl, rfl⟩
          apply NDr.pure
          · exact ⟨rfl, rfl⟩
          apply NDr.pure
          · exact ⟨rfl, rfl⟩
          apply NDr.pure
          · exact ⟨rfl, rfl⟩
          refine NP.mk (by kernel_rfl) ?_
          exact NRet.mk [] rfl ⟨.refl _, rfl⟩
        | true =>
          rw [hs] at a1
          have el := endP_len p
          have ml := meet_len to (endP p)
          have jl := join_len p.floor (meet to (endP p))
          have a2 := end_walk p sp
          have a3 := vecMeet_walk to (endP p) (by omega) (by omega)
          have a4 := vecJoin_walk p.floor (meet to (endP p)) (by omega) (by omega)
          have a5 := closed16_walk p.list (join p.floor (meet to (endP p))) sp.2.1 sp.2.2 (by omega)
          have b1 := prune_walk p to sp (by omega)
          have sq := smP_prune (to := to) sp (by omega)
          obtain ⟨q1, q2⟩ := prune_sound to hs
          have b2 := sound_walk (pruneP p to) sq
          rw [q1] at b2
          have b3 := end_walk (pruneP p to) sq
          rw [q2] at b3
          have b4 := equal_refl (v := endP p) (by omega)
          have hfl : ∀ i, vat p.floor i ≤ vat (pruneF p to) i := fun i => by rw [pruneF_vat]; omega
          have b5 := vecWithin_walk p.floor (pruneF p to) (by omega) (by have := sq.1; exact Nat.le_trans this (by decide))
          rw [(vwithin_iff _ _).2 hfl] at b5
          have c1 := since_walk p v sp (by omega)
          have c2 := since_walk (pruneP p to) v sq (by omega)
          cases hw : vwithin (pruneF p to) v with
          | false =>
            have hw' : vwithin (pruneP p to).floor v = false := hw
            rw [if_neg (by simp [hw'])] at c2
            cases hw0 : vwithin p.floor v with
            | false =>
              rw [if_neg (by simp [hw0])] at c1
              refine NCall.call (awake16) rfl rfl ?_
              refine NP.mk (by kernel_rfl) ?_
              apply NDr.rd [0]
              · intro fH TH
                exact ⟨rfl, rfl⟩
              apply NDr.pure
              · refine NCall.call (s1) rfl rfl ?_
                exact ⟨rfl, rfl⟩
              apply NDr.pure
              · exact ⟨rfl, rfl⟩
              apply NDr.pure
              · exact ⟨rfl, rfl⟩
              apply NDr.pure
              · exact ⟨rfl, rfl⟩
              apply NDr.pure
              · exact ⟨rfl, rfl⟩
              apply NDr.pure
              · refine ND.no (by (simp only [List.length_map, List.length_append, List.length_replicate, List.length_cons, List.length_nil, List.length_take, List.length_drop]; omega)) ?_
                exact ⟨rfl, rfl⟩
              apply NDr.pure
              · exact ⟨rfl, rfl⟩
              apply NDr.pure
              · exact ⟨rfl, rfl⟩
              apply NDr.pure
              · exact ⟨rfl, rfl⟩
              apply NDr.pure
              · exact ⟨rfl, rfl⟩
              apply NDr.pure
              · refine ND.no (by (simp only [List.length_map, List.length_append, List.length_replicate, List.length_cons, List.length_nil, List.length_take, List.length_drop]; omega)) ?_
                exact ⟨rfl, rfl⟩
              apply NDr.pure
              · exact ⟨rfl, rfl⟩
              apply NDr.pure
              · exact ⟨rfl, rfl⟩
              apply NDr.rd [0]
              · intro fH TH
                exact ⟨rfl, rfl⟩
              apply NDr.pure
              · refine NCall.call (a1) rfl rfl ?_
                exact ⟨rfl, rfl⟩
              apply NDr.pure
              · exact ⟨rfl, rfl⟩
              apply NDr.pure
              · exact ⟨rfl, rfl⟩
              apply NDr.pure
              · exact ⟨rfl, rfl⟩
              apply NDr.rd [0]
              · intro fH TH
                exact ⟨rfl, rfl⟩
              apply NDr.rd [0]
              · intro fH TH
                exact ⟨rfl, rfl⟩
              apply NDr.rd [0]
              · intro fH TH
                exact ⟨rfl, rfl⟩
              apply NDr.rd [0]
              · intro fH TH
                exact ⟨rfl, rfl⟩
              apply NDr.pure
              · exact ⟨rfl, rfl⟩
              apply NDr.rd [0]
              · intro fH TH
                exact ⟨rfl, rfl⟩
              apply NDr.pure
              · refine NCall.call (a2) rfl rfl ?_
                exact ⟨rfl, rfl⟩
              apply NDr.pure
              · refine NCall.call (a3) rfl rfl ?_
                exact ⟨rfl, rfl⟩
              apply NDr.pure
              · refine NCall.call (a4) rfl rfl ?_
                exact ⟨rfl, rfl⟩
              apply NDr.pure
              · refine NCall.call (a5) rfl rfl ?_
                exact ⟨rfl, rfl⟩
              apply NDr.pure
              · exact NB.det0'
              apply NDr.pure
              · exact ⟨rfl, rfl⟩
              refine NP.mk (by kernel_rfl) ?_
              refine NB.mk (fun hk3 => ?_) (fun hk3 => ?_)
              · exact NRet.mk [] rfl ⟨.refl _, rfl⟩
              refine NCall.call (b1) rfl rfl ?_
              refine NP.mk (by kernel_rfl) ?_
              apply NDr.rd [1]
              · intro fH TH
                exact ⟨rfl, rfl⟩
              apply NDr.pure
              · refine NCall.call (b2) rfl rfl ?_
                exact ⟨rfl, rfl⟩
              apply NDr.pure
              · exact ⟨rfl, rfl⟩
              apply NDr.pure
              · exact ⟨rfl, rfl⟩
              apply NDr.rd [1]
              · intro fH TH
                exact ⟨rfl, rfl⟩
              apply NDr.pure
              · refine NCall.call (b3) rfl rfl ?_
                exact ⟨rfl, rfl⟩
              apply NDr.rd [0]
              · intro fH TH
                exact ⟨rfl, rfl⟩
              apply NDr.pure
              · refine NCall.call (a2) rfl rfl ?_
                exact ⟨rfl, rfl⟩
              apply NDr.pure
              · refine NCall.call (b4) rfl rfl ?_
                exact ⟨rfl, rfl⟩
              apply NDr.pure
              · exact ⟨rfl, rfl⟩
              apply NDr.pure
              · exact ⟨rfl, rfl⟩
              apply NDr.pure
              · exact ⟨rfl, rfl⟩
              apply NDr.rd [0]
              · intro fH TH
                exact ⟨rfl, rfl⟩
              apply NDr.rd [0]
              · intro fH TH
                exact ⟨rfl, rfl⟩
              apply NDr.rd [1]
              · intro fH TH
                exact ⟨rfl, rfl⟩
              apply NDr.rd [1]
              · intro fH TH
                exact ⟨rfl, rfl⟩
              apply NDr.pure
              · refine NCall.call (b5) rfl rfl ?_
                exact ⟨rfl, rfl⟩
              apply NDr.pure
              · exact ⟨rfl, rfl⟩
              apply NDr.pure
              · exact ⟨rfl, rfl⟩
              refine NP.mk (by kernel_rfl) ?_
              refine NCall.call (c1) rfl rfl ?_
              refine NCall.call (c2) rfl rfl ?_
              refine ND.no (by omega) ?_
              exact NRet.mk [] rfl ⟨.refl _, rfl⟩
            | true =>
              rw [if_pos hw0] at c1
              refine NCall.call (awake16) rfl rfl ?_
              refine NP.mk (by kernel_rfl) ?_
              apply NDr.rd [0]
              · intro fH TH
                exact ⟨rfl, rfl⟩
              apply NDr.pure
              · refine NCall.call (s1) rfl rfl ?_
                exact ⟨rfl, rfl⟩
              apply NDr.pure
              · exact ⟨rfl, rfl⟩
              apply NDr.pure
              · exact ⟨rfl, rfl⟩
              apply NDr.pure
              · exact ⟨rfl, rfl⟩
              apply NDr.pure
              · exact ⟨rfl, rfl⟩
              apply NDr.pure
              · refine ND.no (by (simp only [List.length_map, List.length_append, List.length_replicate, List.length_cons, List.length_nil, List.length_take, List.length_drop]; omega)) ?_
                exact ⟨rfl, rfl⟩
              apply NDr.pure
              · exact ⟨rfl, rfl⟩
              apply NDr.pure
              · exact ⟨rfl, rfl⟩
              apply NDr.pure
              · exact ⟨rfl, rfl⟩
              apply NDr.pure
              · exact ⟨rfl, rfl⟩
              apply NDr.pure
              · refine ND.no (by (simp only [List.length_map, List.length_append, List.length_replicate, List.length_cons, List.length_nil, List.length_take, List.length_drop]; omega)) ?_
                exact ⟨rfl, rfl⟩
              apply NDr.pure
              · exact ⟨rfl, rfl⟩
              apply NDr.pure
              · exact ⟨rfl, rfl⟩
              apply NDr.rd [0]
              · intro fH TH
                exact ⟨rfl, rfl⟩
              apply NDr.pure
              · refine NCall.call (a1) rfl rfl ?_
                exact ⟨rfl, rfl⟩
              apply NDr.pure
              · exact ⟨rfl, rfl⟩
              apply NDr.pure
              · exact ⟨rfl, rfl⟩
              apply NDr.pure
              · exact ⟨rfl, rfl⟩
              apply NDr.rd [0]
              · intro fH TH
                exact ⟨rfl, rfl⟩
              apply NDr.rd [0]
              · intro fH TH
                exact ⟨rfl, rfl⟩
              apply NDr.rd [0]
              · intro fH TH
                exact ⟨rfl, rfl⟩
              apply NDr.rd [0]
              · intro fH TH
                exact ⟨rfl, rfl⟩
              apply NDr.pure
              · exact ⟨rfl, rfl⟩
              apply NDr.rd [0]
              · intro fH TH
                exact ⟨rfl, rfl⟩
              apply NDr.pure
              · refine NCall.call (a2) rfl rfl ?_
                exact ⟨rfl, rfl⟩
              apply NDr.pure
              · refine NCall.call (a3) rfl rfl ?_
                exact ⟨rfl, rfl⟩
              apply NDr.pure
              · refine NCall.call (a4) rfl rfl ?_
                exact ⟨rfl, rfl⟩
              apply NDr.pure
              · refine NCall.call (a5) rfl rfl ?_
                exact ⟨rfl, rfl⟩
              apply NDr.pure
              · exact NB.det0'
              apply NDr.pure
              · exact ⟨rfl, rfl⟩
              refine NP.mk (by kernel_rfl) ?_
              refine NB.mk (fun hk3 => ?_) (fun hk3 => ?_)
              · exact NRet.mk [] rfl ⟨.refl _, rfl⟩
              refine NCall.call (b1) rfl rfl ?_
              refine NP.mk (by kernel_rfl) ?_
              apply NDr.rd [1]
              · intro fH TH
                exact ⟨rfl, rfl⟩
              apply NDr.pure
              · refine NCall.call (b2) rfl rfl ?_
                exact ⟨rfl, rfl⟩
              apply NDr.pure
              · exact ⟨rfl, rfl⟩
              apply NDr.pure
              · exact ⟨rfl, rfl⟩
              apply NDr.rd [1]
              · intro fH TH
                exact ⟨rfl, rfl⟩
              apply NDr.pure
              · refine NCall.call (b3) rfl rfl ?_
                exact ⟨rfl, rfl⟩
              apply NDr.rd [0]
              · intro fH TH
                exact ⟨rfl, rfl⟩
              apply NDr.pure
              · refine NCall.call (a2) rfl rfl ?_
                exact ⟨rfl, rfl⟩
              apply NDr.pure
              · refine NCall.call (b4) rfl rfl ?_
                exact ⟨rfl, rfl⟩
              apply NDr.pure
              · exact ⟨rfl, rfl⟩
              apply NDr.pure
              · exact ⟨rfl, rfl⟩
              apply NDr.pure
              · exact ⟨rfl, rfl⟩
              apply NDr.rd [0]
              · intro fH TH
                exact ⟨rfl, rfl⟩
              apply NDr.rd [0]
              · intro fH TH
                exact ⟨rfl, rfl⟩
              apply NDr.rd [1]
              · intro fH TH
                exact ⟨rfl, rfl⟩
              apply NDr.rd [1]
              · intro fH TH
                exact ⟨rfl, rfl⟩
              apply NDr.pure
              · refine NCall.call (b5) rfl rfl ?_
                exact ⟨rfl, rfl⟩
              apply NDr.pure
              · exact ⟨rfl, rfl⟩
              apply NDr.pure
              · exact ⟨rfl, rfl⟩
              refine NP.mk (by kernel_rfl) ?_
              refine NCall.call (c1) rfl rfl ?_
              refine NCall.call (c2) rfl rfl ?_
              refine ND.no (by omega) ?_
              exact NRet.mk [] rfl ⟨.refl _, rfl⟩
          | true =>
            have hw' : vwithin (pruneP p to).floor v = true := hw
            have hwv := (vwithin_iff _ _).1 hw
            rw [if_pos hw', show leftB (pruneP p to).list v = leftB p.list v from left_left hwv _] at c2
            rw [if_pos ((vwithin_iff _ _).2 fun i => Int.le_trans (hfl i) (hwv i))] at c1
            have hll := leftB_len p.list v
            have c3 := sameAll_refl (l := leftB p.list v) (by omega) (left_sm sp.2.2)
            refine NCall.call (awake16) rfl rfl ?_
            refine NP.mk (by kernel_rfl) ?_
            apply NDr.rd [0]
            · intro fH TH
              exact ⟨rfl, rfl⟩
            apply NDr.pure
            · refine NCall.call (s1) rfl rfl ?_
              exact ⟨rfl, rfl⟩
            apply NDr.pure
            · exact ⟨rfl, rfl⟩
            apply NDr.pure
            · exact ⟨rfl, rfl⟩
            apply NDr.pure
            · exact ⟨rfl, rfl⟩
            apply NDr.pure
            · exact ⟨rfl, rfl⟩
            apply NDr.pure
            · refine ND.no (by (simp only [List.length_map, List.length_append, List.length_replicate, List.length_cons, List.length_nil, List.length_take, List.length_drop]; omega)) ?_
              exact ⟨rfl, rfl⟩
            apply NDr.pure
            · exact ⟨rfl, rfl⟩
            apply NDr.pure
            · exact ⟨rfl, rfl⟩
            apply NDr.pure
            · exact ⟨rfl, rfl⟩
            apply NDr.pure
            · exact ⟨rfl, rfl⟩
            apply NDr.pure
            · refine ND.no (by (simp only [List.length_map, List.length_append, List.length_replicate, List.length_cons, List.length_nil, List.length_take, List.length_drop]; omega)) ?_
              exact ⟨rfl, rfl⟩
            apply NDr.pure
            · exact ⟨rfl, rfl⟩
            apply NDr.pure
            · exact ⟨rfl, rfl⟩
            apply NDr.rd [0]
            · intro fH TH
              exact ⟨rfl, rfl⟩
            apply NDr.pure
            · refine NCall.call (a1) rfl rfl ?_
              exact ⟨rfl, rfl⟩
            apply NDr.pure
            · exact ⟨rfl, rfl⟩
            apply NDr.pure
            · exact ⟨rfl, rfl⟩
            apply NDr.pure
            · exact ⟨rfl, rfl⟩
            apply NDr.rd [0]
            · intro fH TH
              exact ⟨rfl, rfl⟩
            apply NDr.rd [0]
            · intro fH TH
              exact ⟨rfl, rfl⟩
            apply NDr.rd [0]
            · intro fH TH
              exact ⟨rfl, rfl⟩
            apply NDr.rd [0]
            · intro fH TH
              exact ⟨rfl, rfl⟩
            apply NDr.pure
            · exact ⟨rfl, rfl⟩
            apply NDr.rd [0]
            · intro fH TH
              exact ⟨rfl, rfl⟩
            apply NDr.pure
            · refine NCall.call (a2) rfl rfl ?_
              exact ⟨rfl, rfl⟩
            apply NDr.pure
            · refine NCall.call (a3) rfl rfl ?_
              exact ⟨rfl, rfl⟩
            apply NDr.pure
            · refine NCall.call (a4) rfl rfl ?_
              exact ⟨rfl, rfl⟩
            apply NDr.pure
            · refine NCall.call (a5) rfl rfl ?_
              exact ⟨rfl, rfl⟩
            apply NDr.pure
            · exact NB.det0'
            apply NDr.pure
            · exact ⟨rfl, rfl⟩
            refine NP.mk (by kernel_rfl) ?_
            refine NB.mk (fun hk3 => ?_) (fun hk3 => ?_)
            · exact NRet.mk [] rfl ⟨.refl _, rfl⟩
            refine NCall.call (b1) rfl rfl ?_
            refine NP.mk (by kernel_rfl) ?_
            apply NDr.rd [1]
            · intro fH TH
              exact ⟨rfl, rfl⟩
            apply NDr.pure
            · refine NCall.call (b2) rfl rfl ?_
              exact ⟨rfl, rfl⟩
            apply NDr.pure
            · exact ⟨rfl, rfl⟩
            apply NDr.pure
            · exact ⟨rfl, rfl⟩
            apply NDr.rd [1]
            · intro fH TH
              exact ⟨rfl, rfl⟩
            apply NDr.pure
            · refine NCall.call (b3) rfl rfl ?_
              exact ⟨rfl, rfl⟩
            apply NDr.rd [0]
            · intro fH TH
              exact ⟨rfl, rfl⟩
            apply NDr.pure
            · refine NCall.call (a2) rfl rfl ?_
              exact ⟨rfl, rfl⟩
            apply NDr.pure
            · refine NCall.call (b4) rfl rfl ?_
              exact ⟨rfl, rfl⟩
            apply NDr.pure
            · exact ⟨rfl, rfl⟩
            apply NDr.pure
            · exact ⟨rfl, rfl⟩
            apply NDr.pure
            · exact ⟨rfl, rfl⟩
            apply NDr.rd [0]
            · intro fH TH
              exact ⟨rfl, rfl⟩
            apply NDr.rd [0]
            · intro fH TH
              exact ⟨rfl, rfl⟩
            apply NDr.rd [1]
            · intro fH TH
              exact ⟨rfl, rfl⟩
            apply NDr.rd [1]
            · intro fH TH
              exact ⟨rfl, rfl⟩
            apply NDr.pure
            · refine NCall.call (b5) rfl rfl ?_
              exact ⟨rfl, rfl⟩
            apply NDr.pure
            · exact ⟨rfl, rfl⟩
            apply NDr.pure
            · exact ⟨rfl, rfl⟩
            refine NP.mk (by kernel_rfl) ?_
            refine NCall.call (c1) rfl rfl ?_
            refine NCall.call (c2) rfl rfl ?_
            refine ND.yes (by omega) ?_
            refine ND.yes (by omega) ?_
            refine NCall.call (c3) rfl rfl ?_
            exact NRet.mk [] rfl ⟨.refl _, rfl⟩
      · refine NCall.call (awake16) rfl rfl ?_
        refine NP.mk (by kernel_rfl) ?_
        apply NDr.rd [0]
        · intro fH TH
          exact ⟨rfl, rfl⟩
        apply NDr.pure
        · refine NCall.call (s1) rfl rfl ?_
          exact ⟨rfl, rfl⟩
        apply NDr.pure
        · exact ⟨rfl, rfl⟩
        apply NDr.pure
        · exact ⟨rfl, rfl⟩
        apply NDr.pure
        · exact ⟨rfl, rfl⟩
        apply NDr.pure
        · exact ⟨rfl, rfl⟩
        apply NDr.pure
        · refine ND.no (by (simp only [List.length_map, List.length_append, List.length_replicate, List.length_cons, List.length_nil, List.length_take, List.length_drop]; omega)) ?_
          exact ⟨rfl, rfl⟩
        apply NDr.pure
        · exact ⟨rfl, rfl⟩
        apply NDr.pure
        · exact ⟨rfl, rfl⟩
        apply NDr.pure
        · exact ⟨rfl, rfl⟩
        apply NDr.pure
        · exact ⟨rfl, rfl⟩
        apply NDr.pure
        · refine ND.yes (by (simp only [List.length_map, List.length_append, List.length_replicate, List.length_cons, List.length_nil, List.length_take, List.length_drop]; omega)) ?_
          exact ⟨rfl, rfl⟩
        apply NDr.pure
        · exact ⟨rfl, rfl⟩
        apply NDr.pure
        · exact ⟨rfl, rfl⟩
        apply NDr.pure
        · exact ⟨rfl, rfl⟩
        apply NDr.pure
        · exact ⟨rfl, rfl⟩
        apply NDr.pure
        · exact ⟨rfl, rfl⟩
        refine NP.mk (by kernel_rfl) ?_
        exact NRet.mk [] rfl ⟨.refl _, rfl⟩
    · refine NCall.call (awake16) rfl rfl ?_
      refine NP.mk (by kernel_rfl) ?_
      apply NDr.rd [0]
      · intro fH TH
        exact ⟨rfl, rfl⟩
      apply NDr.pure
      · refine NCall.call (s1) rfl rfl ?_
        exact ⟨rfl, rfl⟩
      apply NDr.pure
      · exact ⟨rfl, rfl⟩
      apply NDr.pure
      · exact ⟨rfl, rfl⟩
      apply NDr.pure
      · exact ⟨rfl, rfl⟩
      apply NDr.pure
      · exact ⟨rfl, rfl⟩
      apply NDr.pure
      · refine ND.yes (by (simp only [List.length_map, List.length_append, List.length_replicate, List.length_cons, List.length_nil, List.length_take, List.length_drop]; omega)) ?_
        exact ⟨rfl, rfl⟩
      apply NDr.pure
      · exact ⟨rfl, rfl⟩
      apply NDr.pure
      · exact ⟨rfl, rfl⟩
      apply NDr.pure
      · exact ⟨rfl, rfl⟩
      apply NDr.pure
      · exact ⟨rfl, rfl⟩
      apply NDr.pure
      · exact ⟨rfl, rfl⟩
      apply NDr.pure
      · exact ⟨rfl, rfl⟩
      apply NDr.pure
      · exact ⟨rfl, rfl⟩
      refine NP.mk (by kernel_rfl) ?_
      exact NRet.mk [] rfl ⟨.refl _, rfl⟩
theorem pastKeeps_walk (p : Past) (v : List Int) (hp : okPast p) (hv : v.length ≤ reachBytes) : ACalls Try.prog Nm.law16_PastKeeps [pastA p, ints v] [] (.bool true) [] := by
  refine ACalls_of tab (dr_snd tab mixed) Nm.law16_PastKeeps_h rfl (by kernel_rfl) (Nat.le_of_ble_eq_true rfl) rfl ?_
  have hv := okV hv
  have s1 := short16_walk p hp
  cases h1 : shortP p with
  | false =>
    rw [h1] at s1
    refine NCall.call (awake16) rfl rfl ?_
    refine NCall.call (s1) rfl rfl ?_
    exact NRet.mk [] rfl ⟨.refl _, rfl⟩
  | true =>
    rw [h1] at s1
    obtain ⟨g1, g2, sp⟩ := shortP_sm h1 hp
    by_cases hv0 : v.length ≤ 60
    · have a1 := sound_walk p sp
      cases hs : soundP p with
      | false =>
        rw [hs] at a1
        refine NCall.call (awake16) rfl rfl ?_
        refine NCall.call (s1) rfl rfl ?_
        refine ND.no (by (simp only [List.length_map, List.length_append, List.length_replicate, List.length_cons, List.length_nil, List.length_take, List.length_drop]; omega)) ?_
        refine NCall.call (a1) rfl rfl ?_
        exact NRet.mk [] rfl ⟨.refl _, rfl⟩
      | true =>
        rw [hs] at a1
        have a2 := closed16_walk p.list v sp.2.1 sp.2.2 (by omega)
        cases hc : (p.list.all fun t => !hasT v t || vwithin t.deps v) with
        | false =>
          rw [hc] at a2
          refine NCall.call (awake16) rfl rfl ?_
          refine NCall.call (s1) rfl rfl ?_
          refine ND.no (by (simp only [List.length_map, List.length_append, List.length_replicate, List.length_cons, List.length_nil, List.length_take, List.length_drop]; omega)) ?_
          refine NCall.call (a1) rfl rfl ?_
          refine NCall.call (a2) rfl rfl ?_
          exact NRet.mk [] rfl ⟨.refl _, rfl⟩
        | true =>
          rw [hc] at a2
          have a3 := since_walk p v sp (by omega)
          have a4 := vecWithin_walk p.floor v (by omega) (by omega)
          cases hw : vwithin p.floor v with
          | false =>
            rw [hw] at a4
            rw [if_neg (by simp [hw])] at a3
            refine NCall.call (awake16) rfl rfl ?_
            refine NCall.call (s1) rfl rfl ?_
            refine ND.no (by (simp only [List.length_map, List.length_append, List.length_replicate, List.length_cons, List.length_nil, List.length_take, List.length_drop]; omega)) ?_
            refine NCall.call (a1) rfl rfl ?_
            refine NCall.call (a2) rfl rfl ?_
            refine NCall.call (a3) rfl rfl ?_
            refine ND.no (by omega) ?_
            refine ND.yes (by omega) ?_
            refine NCall.call (a4) rfl rfl ?_
            exact NRet.mk [] rfl ⟨.refl _, rfl⟩
          | true =>
            rw [if_pos hw] at a3
            obtain ⟨q1, q2⟩ := past_keeps hs ((vwithin_iff _ _).1 hw)
            have hll := leftB_len p.list v
            have hsm := left_sm (v := v) sp.2.2
            have el := endP_len p
            have a5 := chain_walk v (leftB p.list v) (by omega) (by omega) hsm
            rw [q1] at a5
            have a6 := end_walk p sp
            have a7 := vecJoin_walk v (endP p) (by omega) (by omega)
            have jl := join_len v (endP p)
            have nl := nexts_len (leftB p.list v) v
            have a8 := same7_walk (nexts v (leftB p.list v)) (join v (endP p)) (by omega) (by omega)
            rw [decide_eq_true (trim_ext _ _ q2)] at a8
            generalize leftB p.list v = L at *
            refine NCall.call (awake16) rfl rfl ?_
            refine NCall.call (s1) rfl rfl ?_
            refine ND.no (by (simp only [List.length_map, List.length_append, List.length_replicate, List.length_cons, List.length_nil, List.length_take, List.length_drop]; omega)) ?_
            refine NCall.call (a1) rfl rfl ?_
            refine NCall.call (a2) rfl rfl ?_
            refine NCall.call (a3) rfl rfl ?_
            refine ND.yes (by omega) ?_
            refine NCall.call (a5) rfl rfl ?_
            refine NLoop.mk [] [0, 1, 2, 5, 7, 8] (fun m vs H => ∃ i, i ≤ L.length ∧ m = L.length - i ∧ H = [.row .box (.agg 2) [pastA p]] ∧ vs = [pastA p, ints v, .ptr 0 0 0, txnsA L, ints (nexts v (L.take i)), i64 i]) rfl ?_ ?_
            · exact Canon.mk [0] rfl ⟨L.length, 0, Nat.zero_le _, rfl, rfl, rfl⟩
            · rintro m vs H ⟨i, hi, rfl, rfl, rfl⟩
              by_cases hil : i < L.length
              · have nl := nexts_len (L.take i) v
                have b1 := next_walk (nexts v (L.take i)) L[i] (by omega)
                rw [← nexts_take hil] at b1
                refine ND.yes (by (simp only [List.length_map, List.length_append, List.length_replicate, List.length_cons, List.length_nil, List.length_take, List.length_drop]; omega)) ?_
                refine NP.mk (by omega) ?_
                refine NG.mapN (by omega) ?_
                refine NCall.call (b1) rfl rfl ?_
                refine NW.i64 (by omega) (by omega) ?_
                exact Canon.mk [0] rfl ⟨L.length - (i + 1), by omega, i + 1, by omega, rfl, rfl, rfl⟩
              · rw [List.take_of_length_le (by omega)]
                refine ND.no (by (simp only [List.length_map, List.length_append, List.length_replicate, List.length_cons, List.length_nil, List.length_take, List.length_drop]; omega)) ?_
                refine NCall.call (a6) rfl rfl ?_
                refine NCall.call (a7) rfl rfl ?_
                refine NCall.call (a8) rfl rfl ?_
                exact NRet.mk [] rfl ⟨.refl _, rfl⟩
    · refine NCall.call (awake16) rfl rfl ?_
      refine NCall.call (s1) rfl rfl ?_
      refine ND.yes (by (simp only [List.length_map, List.length_append, List.length_replicate, List.length_cons, List.length_nil, List.length_take, List.length_drop]; omega)) ?_
      exact NRet.mk [] rfl ⟨.refl _, rfl⟩
theorem pastAll_walk (p : Past) (t : Txn) (v : List Int) (hp : okPast p) (ht : okTxn t) (hv : v.length ≤ reachBytes) : ACalls Try.prog Nm.law16_PastAll [pastA p, txnA t, ints v] [] (.bool true) [] := by
  refine ACalls_of tab (dr_snd tab mixed) Nm.law16_PastAll_h rfl (by kernel_rfl) (Nat.le_of_ble_eq_true rfl) rfl ?_
  have hv := okV hv
  have s1 := short16_walk p hp
  have s2 := short13_walk [t] (by simp) (by simpa using ht)
  cases h1 : shortP p with
  | false =>
    rw [h1] at s1
    refine NCall.call (awake16) rfl rfl ?_
    refine NCall.call (s1) rfl rfl ?_
    exact NRet.mk [] rfl ⟨.refl _, rfl⟩
  | true =>
    rw [h1] at s1
    obtain ⟨g1, g2, sp⟩ := shortP_sm h1 hp
    cases h2 : shortT [t] with
    | false =>
      rw [h2] at s2
      refine NCall.call (awake16) rfl rfl ?_
      refine NCall.call (s1) rfl rfl ?_
      refine NCall.call (s2) rfl rfl ?_
      exact NRet.mk [] rfl ⟨.refl _, rfl⟩
    | true =>
      rw [h2] at s2
      have st := short1_sm h2 ht
      by_cases hv0 : v.length ≤ 60
      · have el := endP_len p
        have a0 := copy7_walk p.floor (by omega)
        have a1 := copy13_own p.list (by omega) sp.2.2
        have a1' := copy13_walk p.list (by omega) sp.2.2
        have a2 := keep_walk p t sp st (by omega)
        have a3 := keep16_walk p t sp st
        have a4 := sound_walk p sp
        have a5 := sound16_walk p sp
        have a6 := end_walk p sp
        have a7 := end16_walk p sp
        have a8 := equal_refl (v := endP p) (by omega)
        have b1 := prune_walk p v sp (by omega)
        have b2 := prune16_walk p v sp (by omega)
        have b3 := sameP (smP_prune (to := v) sp (by omega))
        have b4 := sameP sp
        have b5 := since_walk p v sp (by omega)
        have b6 := within7_walk p.floor v (by omega) (by omega)
        have b7 := left16_walk p.list v (by omega) (by omega)
        have hll := leftB_len p.list v
        have b8 := sameAll_refl (l := leftB p.list v) (by omega) (left_sm sp.2.2)
        have c1 := sameP (p := ⟨[], []⟩) ⟨by simp, by simp, by simp⟩
        have sq : smP ⟨p.floor, p.list ++ [t]⟩ := ⟨sp.1, by simp; omega, fun x hx => by
          rcases List.mem_append.1 hx with hx | hx
          · exact sp.2.2 x hx
          · rw [List.mem_singleton.1 hx]; exact st⟩
        have c2 := sameP sq
        have c2 : ACalls Try.prog Nm.ref16_Same [pastA ⟨p.floor, p.list ++ [t]⟩, .agg [ints p.floor, .list (.agg 4) (p.list.map txnA ++ [txnA t])]] [] (.bool true) [] := by
          have e : AV.list (.agg 4) (p.list.map txnA ++ [txnA t]) = txnsA (p.list ++ [t]) := by simp [txnsA]
          rw [e]; exact c2
        by_cases hk : keepP p t = 0
        · rw [hk, show keptP p t = ⟨p.floor, p.list ++ [t]⟩ by unfold keptP; simp [hk]] at a2
          rw [hk] at a3
          cases hw : vwithin p.floor v with
          | false =>
            rw [if_neg (by simp [hw])] at b5
            rw [hw] at b6
            refine NCall.call (awake16) rfl rfl ?_
            refine NCall.call (s1) rfl rfl ?_
            refine NCall.call (s2) rfl rfl ?_
            refine ND.no (by (simp only [List.length_map, List.length_append, List.length_replicate, List.length_cons, List.length_nil, List.length_take, List.length_drop]; omega)) ?_
            refine NP.mk (by kernel_rfl) ?_
            apply NDr.rd [0]
            · intro fH TH
              exact ⟨rfl, rfl⟩
            apply NDr.rd [0]
            · intro fH TH
              exact ⟨rfl, rfl⟩
            apply NDr.pure
            · refine NCall.call (a0) rfl rfl ?_
              exact ⟨rfl, rfl⟩
            apply NDr.rd [0]
            · intro fH TH
              exact ⟨rfl, rfl⟩
            apply NDr.rd [0]
            · intro fH TH
              exact ⟨rfl, rfl⟩
            apply NDr.pure
            · refine NCall.call (a1') rfl rfl ?_
              exact ⟨rfl, rfl⟩
            apply NDr.pure
            · exact ⟨rfl, rfl⟩
            apply NDr.efw []
            · exact ⟨rfl, rfl⟩
            · repeat (first | exact True.intro | refine ⟨by first | exact rfl | exact True.intro, ?_⟩)
            apply NDr.efw [2]
            · exact ⟨rfl, rfl⟩
            · repeat (first | exact True.intro | refine ⟨by first | exact rfl | exact True.intro, ?_⟩)
            refine NP.mk (by kernel_rfl) ?_
            refine NCall.call (a2) rfl rfl ?_
            refine NCall.call (a3) rfl rfl ?_
            refine ND.yes (by omega) ?_
            refine ND.yes (by omega) ?_
            refine NP.mk (by kernel_rfl) ?_
            apply NDr.rd [0]
            · intro fH TH
              exact ⟨rfl, rfl⟩
            apply NDr.rd [0]
            · intro fH TH
              exact ⟨rfl, rfl⟩
            apply NDr.rd [0]
            · intro fH TH
              exact ⟨rfl, rfl⟩
            apply NDr.rd [0]
            · intro fH TH
              exact ⟨rfl, rfl⟩
            apply NDr.efw []
            · refine NCall.atA (ACalls.frame (a1) rfl _) ?_
              exact ⟨rfl, rfl⟩
            · repeat (first | exact True.intro | refine ⟨by first | exact rfl | exact True.intro, ?_⟩)
            apply NDr.rd [1]
            · intro fH TH
              exact ⟨rfl, rfl⟩
            apply NDr.pure
            · exact ⟨rfl, rfl⟩
            apply NDr.efw [5]
            · refine NFz.own ?_
              refine NApp.endA (by simp) (by simp; omega) ?_
              exact ⟨rfl, rfl⟩
            · repeat (first | exact True.intro | refine ⟨by first | exact rfl | exact True.intro, ?_⟩)
            apply NDr.any
            · intro H'
              exact ⟨rfl, rfl⟩
            apply NDr.efw [4]
            · exact ⟨rfl, rfl⟩
            · repeat (first | exact True.intro | refine ⟨by first | exact rfl | exact True.intro, ?_⟩)
            refine NP.mk (by kernel_rfl) ?_
            refine NP.mk (by kernel_rfl) ?_
            apply NDr.rd [3]
            · intro fH TH
              exact ⟨rfl, rfl⟩
            apply NDr.rd [4]
            · intro fH TH
              exact ⟨rfl, rfl⟩
            apply NDr.rd [6]
            · intro fH TH
              refine NCall.lend (c2) (.cons (.agg (.cons (.same _) (.cons (.same _) .nil))) (.cons (.agg (.cons (.same _) (.cons (.own trivial rfl (by simp) (by simp) (List.take_of_length_le (by simp)).symm) .nil))) .nil)) rfl rfl ?_
              exact ⟨rfl, rfl⟩
            apply NDr.pure
            · exact ⟨rfl, rfl⟩
            apply NDr.pure
            · exact ⟨rfl, rfl⟩
            apply NDr.rd [2]
            · intro fH TH
              exact ⟨rfl, rfl⟩
            apply NDr.pure
            · refine NCall.call (a4) rfl rfl ?_
              exact ⟨rfl, rfl⟩
            apply NDr.rd [0]
            · intro fH TH
              exact ⟨rfl, rfl⟩
            apply NDr.pure
            · refine NCall.call (a5) rfl rfl ?_
              exact ⟨rfl, rfl⟩
            apply NDr.pure
            · refine ND.yes (by simp) ?_
              exact ⟨rfl, rfl⟩
            apply NDr.pure
            · exact ⟨rfl, rfl⟩
            apply NDr.pure
            · exact ⟨rfl, rfl⟩
            apply NDr.rd [2]
            · intro fH TH
              exact ⟨rfl, rfl⟩
            apply NDr.pure
            · refine NCall.call (a6) rfl rfl ?_
              exact ⟨rfl, rfl⟩
            apply NDr.rd [0]
            · intro fH TH
              exact ⟨rfl, rfl⟩
            apply NDr.pure
            · refine NCall.call (a7) rfl rfl ?_
              exact ⟨rfl, rfl⟩
            apply NDr.pure
            · refine NCall.call (a8) rfl rfl ?_
              exact ⟨rfl, rfl⟩
            apply NDr.pure
            · exact ⟨rfl, rfl⟩
            apply NDr.pure
            · exact ⟨rfl, rfl⟩
            apply NDr.pure
            · exact ⟨rfl, rfl⟩
            apply NDr.rd [2]
            · intro fH TH
              exact ⟨rfl, rfl⟩
            apply NDr.pure
            · exact ⟨rfl, rfl⟩
            apply NDr.pure
            · refine NCall.call (b1) rfl rfl ?_
              exact ⟨rfl, rfl⟩
            apply NDr.rd [0]
            · intro fH TH
              exact ⟨rfl, rfl⟩
            apply NDr.pure
            · exact ⟨rfl, rfl⟩
            apply NDr.pure
            · refine NCall.call (b2) rfl rfl ?_
              exact ⟨rfl, rfl⟩
            apply NDr.pure
            · refine NCall.call (b3) rfl rfl ?_
              exact ⟨rfl, rfl⟩
            apply NDr.pure
            · exact ⟨rfl, rfl⟩
            apply NDr.pure
            · exact ⟨rfl, rfl⟩
            refine NP.mk (by kernel_rfl) ?_
            refine NCall.call (b5) rfl rfl ?_
            refine NCall.call (b6) rfl rfl ?_
            refine ND.yes (by omega) ?_
            refine ND.yes (by rfl) ?_
            exact NRet.mk [] rfl ⟨.refl _, rfl⟩
          | true =>
            rw [if_pos hw] at b5
            rw [hw] at b6
            refine NCall.call (awake16) rfl rfl ?_
            refine NCall.call (s1) rfl rfl ?_
            refine NCall.call (s2) rfl rfl ?_
            refine ND.no (by (simp only [List.length_map, List.length_append, List.length_replicate, List.length_cons, List.length_nil, List.length_take, List.length_drop]; omega)) ?_
            refine NP.mk (by kernel_rfl) ?_
            apply NDr.rd [0]
            · intro fH TH
              exact ⟨rfl, rfl⟩
            apply NDr.rd [0]
            · intro fH TH
              exact ⟨rfl, rfl⟩
            apply NDr.pure
            · refine NCall.call (a0) rfl rfl ?_
              exact ⟨rfl, rfl⟩
            apply NDr.rd [0]
            · intro fH TH
              exact ⟨rfl, rfl⟩
            apply NDr.rd [0]
            · intro fH TH
              exact ⟨rfl, rfl⟩
            apply NDr.pure
            · refine NCall.call (a1') rfl rfl ?_
              exact ⟨rfl, rfl⟩
            apply NDr.pure
            · exact ⟨rfl, rfl⟩
            apply NDr.efw []
            · exact ⟨rfl, rfl⟩
            · repeat (first | exact True.intro | refine ⟨by first | exact rfl | exact True.intro, ?_⟩)
            apply NDr.efw [2]
            · exact ⟨rfl, rfl⟩
            · repeat (first | exact True.intro | refine ⟨by first | exact rfl | exact True.intro, ?_⟩)
            refine NP.mk (by kernel_rfl) ?_
            refine NCall.call (a2) rfl rfl ?_
            refine NCall.call (a3) rfl rfl ?_
            refine ND.yes (by omega) ?_
            refine ND.yes (by omega) ?_
            refine NP.mk (by kernel_rfl) ?_
            apply NDr.rd [0]
            · intro fH TH
              exact ⟨rfl, rfl⟩
            apply NDr.rd [0]
            · intro fH TH
              exact ⟨rfl, rfl⟩
            apply NDr.rd [0]
            · intro fH TH
              exact ⟨rfl, rfl⟩
            apply NDr.rd [0]
            · intro fH TH
              exact ⟨rfl, rfl⟩
            apply NDr.efw []
            · refine NCall.atA (ACalls.frame (a1) rfl _) ?_
              exact ⟨rfl, rfl⟩
            · repeat (first | exact True.intro | refine ⟨by first | exact rfl | exact True.intro, ?_⟩)
            apply NDr.rd [1]
            · intro fH TH
              exact ⟨rfl, rfl⟩
            apply NDr.pure
            · exact ⟨rfl, rfl⟩
            apply NDr.efw [5]
            · refine NFz.own ?_
              refine NApp.endA (by simp) (by simp; omega) ?_
              exact ⟨rfl, rfl⟩
            · repeat (first | exact True.intro | refine ⟨by first | exact rfl | exact True.intro, ?_⟩)
            apply NDr.any
            · intro H'
              exact ⟨rfl, rfl⟩
            apply NDr.efw [4]
            · exact ⟨rfl, rfl⟩
            · repeat (first | exact True.intro | refine ⟨by first | exact rfl | exact True.intro, ?_⟩)
            refine NP.mk (by kernel_rfl) ?_
            refine NP.mk (by kernel_rfl) ?_
            apply NDr.rd [3]
            · intro fH TH
              exact ⟨rfl, rfl⟩
            apply NDr.rd [4]
            · intro fH TH
              exact ⟨rfl, rfl⟩
            apply NDr.rd [6]
            · intro fH TH
              refine NCall.lend (c2) (.cons (.agg (.cons (.same _) (.cons (.same _) .nil))) (.cons (.agg (.cons (.same _) (.cons (.own trivial rfl (by simp) (by simp) (List.take_of_length_le (by simp)).symm) .nil))) .nil)) rfl rfl ?_
              exact ⟨rfl, rfl⟩
            apply NDr.pure
            · exact ⟨rfl, rfl⟩
            apply NDr.pure
            · exact ⟨rfl, rfl⟩
            apply NDr.rd [2]
            · intro fH TH
              exact ⟨rfl, rfl⟩
            apply NDr.pure
            · refine NCall.call (a4) rfl rfl ?_
              exact ⟨rfl, rfl⟩
            apply NDr.rd [0]
            · intro fH TH
              exact ⟨rfl, rfl⟩
            apply NDr.pure
            · refine NCall.call (a5) rfl rfl ?_
              exact ⟨rfl, rfl⟩
            apply NDr.pure
            · refine ND.yes (by simp) ?_
              exact ⟨rfl, rfl⟩
            apply NDr.pure
            · exact ⟨rfl, rfl⟩
            apply NDr.pure
            · exact ⟨rfl, rfl⟩
            apply NDr.rd [2]
            · intro fH TH
              exact ⟨rfl, rfl⟩
            apply NDr.pure
            · refine NCall.call (a6) rfl rfl ?_
              exact ⟨rfl, rfl⟩
            apply NDr.rd [0]
            · intro fH TH
              exact ⟨rfl, rfl⟩
            apply NDr.pure
            · refine NCall.call (a7) rfl rfl ?_
              exact ⟨rfl, rfl⟩
            apply NDr.pure
            · refine NCall.call (a8) rfl rfl ?_
              exact ⟨rfl, rfl⟩
            apply NDr.pure
            · exact ⟨rfl, rfl⟩
            apply NDr.pure
            · exact ⟨rfl, rfl⟩
            apply NDr.pure
            · exact ⟨rfl, rfl⟩
            apply NDr.rd [2]
            · intro fH TH
              exact ⟨rfl, rfl⟩
            apply NDr.pure
            · exact ⟨rfl, rfl⟩
            apply NDr.pure
            · refine NCall.call (b1) rfl rfl ?_
              exact ⟨rfl, rfl⟩
            apply NDr.rd [0]
            · intro fH TH
              exact ⟨rfl, rfl⟩
            apply NDr.pure
            · exact ⟨rfl, rfl⟩
            apply NDr.pure
            · refine NCall.call (b2) rfl rfl ?_
              exact ⟨rfl, rfl⟩
            apply NDr.pure
            · refine NCall.call (b3) rfl rfl ?_
              exact ⟨rfl, rfl⟩
            apply NDr.pure
            · exact ⟨rfl, rfl⟩
            apply NDr.pure
            · exact ⟨rfl, rfl⟩
            refine NP.mk (by kernel_rfl) ?_
            refine NCall.call (b5) rfl rfl ?_
            refine NCall.call (b6) rfl rfl ?_
            refine ND.yes (by omega) ?_
            refine NCall.call (b7) rfl rfl ?_
            refine NCall.call (b8) rfl rfl ?_
            refine NCall.call (b4) rfl rfl ?_
            exact NRet.mk [] rfl ⟨.refl _, rfl⟩
        · rw [show keptP p t = ⟨[], []⟩ by unfold keptP; simp [hk]] at a2
          cases hw : vwithin p.floor v with
          | false =>
            rw [if_neg (by simp [hw])] at b5
            rw [hw] at b6
            refine NCall.call (awake16) rfl rfl ?_
            refine NCall.call (s1) rfl rfl ?_
            refine NCall.call (s2) rfl rfl ?_
            refine ND.no (by (simp only [List.length_map, List.length_append, List.length_replicate, List.length_cons, List.length_nil, List.length_take, List.length_drop]; omega)) ?_
            refine NP.mk (by kernel_rfl) ?_
            apply NDr.rd [0]
            · intro fH TH
              exact ⟨rfl, rfl⟩
            apply NDr.rd [0]
            · intro fH TH
              exact ⟨rfl, rfl⟩
            apply NDr.pure
            · refine NCall.call (a0) rfl rfl ?_
              exact ⟨rfl, rfl⟩
            apply NDr.rd [0]
            · intro fH TH
              exact ⟨rfl, rfl⟩
            apply NDr.rd [0]
            · intro fH TH
              exact ⟨rfl, rfl⟩
            apply NDr.pure
            · refine NCall.call (a1') rfl rfl ?_
              exact ⟨rfl, rfl⟩
            apply NDr.pure
            · exact ⟨rfl, rfl⟩
            apply NDr.efw []
            · exact ⟨rfl, rfl⟩
            · repeat (first | exact True.intro | refine ⟨by first | exact rfl | exact True.intro, ?_⟩)
            apply NDr.efw [2]
            · exact ⟨rfl, rfl⟩
            · repeat (first | exact True.intro | refine ⟨by first | exact rfl | exact True.intro, ?_⟩)
            refine NP.mk (by kernel_rfl) ?_
            refine NCall.call (a2) rfl rfl ?_
            refine NCall.call (a3) rfl rfl ?_
            refine ND.yes (by omega) ?_
            refine ND.no (by omega) ?_
            refine NP.mk (by kernel_rfl) ?_
            apply NDr.rd [3]
            · intro fH TH
              exact ⟨rfl, rfl⟩
            apply NDr.rd [4]
            · intro fH TH
              exact ⟨rfl, rfl⟩
            apply NDr.pure
            · refine NCall.call (ACalls.args (c1) (by repeat (first | exact LeA.refl _ | exact LeA.nils _ | refine LeA.agg ?_ | refine LeA.list _ ?_ | exact LeAs.nil | refine LeAs.cons ?_ ?_))) rfl rfl ?_
              exact ⟨rfl, rfl⟩
            apply NDr.pure
            · exact ⟨rfl, rfl⟩
            apply NDr.pure
            · exact ⟨rfl, rfl⟩
            apply NDr.rd [2]
            · intro fH TH
              exact ⟨rfl, rfl⟩
            apply NDr.pure
            · refine NCall.call (a4) rfl rfl ?_
              exact ⟨rfl, rfl⟩
            apply NDr.rd [0]
            · intro fH TH
              exact ⟨rfl, rfl⟩
            apply NDr.pure
            · refine NCall.call (a5) rfl rfl ?_
              exact ⟨rfl, rfl⟩
            apply NDr.pure
            · refine ND.yes (by simp) ?_
              exact ⟨rfl, rfl⟩
            apply NDr.pure
            · exact ⟨rfl, rfl⟩
            apply NDr.pure
            · exact ⟨rfl, rfl⟩
            apply NDr.rd [2]
            · intro fH TH
              exact ⟨rfl, rfl⟩
            apply NDr.pure
            · refine NCall.call (a6) rfl rfl ?_
              exact ⟨rfl, rfl⟩
            apply NDr.rd [0]
            · intro fH TH
              exact ⟨rfl, rfl⟩
            apply NDr.pure
            · refine NCall.call (a7) rfl rfl ?_
              exact ⟨rfl, rfl⟩
            apply NDr.pure
            · refine NCall.call (a8) rfl rfl ?_
              exact ⟨rfl, rfl⟩
            apply NDr.pure
            · exact ⟨rfl, rfl⟩
            apply NDr.pure
            · exact ⟨rfl, rfl⟩
            apply NDr.pure
            · exact ⟨rfl, rfl⟩
            apply NDr.rd [2]
            · intro fH TH
              exact ⟨rfl, rfl⟩
            apply NDr.pure
            · exact ⟨rfl, rfl⟩
            apply NDr.pure
            · refine NCall.call (b1) rfl rfl ?_
              exact ⟨rfl, rfl⟩
            apply NDr.rd [0]
            · intro fH TH
              exact ⟨rfl, rfl⟩
            apply NDr.pure
            · exact ⟨rfl, rfl⟩
            apply NDr.pure
            · refine NCall.call (b2) rfl rfl ?_
              exact ⟨rfl, rfl⟩
            apply NDr.pure
            · refine NCall.call (b3) rfl rfl ?_
              exact ⟨rfl, rfl⟩
            apply NDr.pure
            · exact ⟨rfl, rfl⟩
            apply NDr.pure
            · exact ⟨rfl, rfl⟩
            refine NP.mk (by kernel_rfl) ?_
            refine NCall.call (b5) rfl rfl ?_
            refine NCall.call (b6) rfl rfl ?_
            refine ND.yes (by omega) ?_
            refine ND.yes (by rfl) ?_
            exact NRet.mk [] rfl ⟨.refl _, rfl⟩
          | true =>
            rw [if_pos hw] at b5
            rw [hw] at b6
            refine NCall.call (awake16) rfl rfl ?_
            refine NCall.call (s1) rfl rfl ?_
            refine NCall.call (s2) rfl rfl ?_
            refine ND.no (by (simp only [List.length_map, List.length_append, List.length_replicate, List.length_cons, List.length_nil, List.length_take, List.length_drop]; omega)) ?_
            refine NP.mk (by kernel_rfl) ?_
            apply NDr.rd [0]
            · intro fH TH
              exact ⟨rfl, rfl⟩
            apply NDr.rd [0]
            · intro fH TH
              exact ⟨rfl, rfl⟩
            apply NDr.pure
            · refine NCall.call (a0) rfl rfl ?_
              exact ⟨rfl, rfl⟩
            apply NDr.rd [0]
            · intro fH TH
              exact ⟨rfl, rfl⟩
            apply NDr.rd [0]
            · intro fH TH
              exact ⟨rfl, rfl⟩
            apply NDr.pure
            · refine NCall.call (a1') rfl rfl ?_
              exact ⟨rfl, rfl⟩
            apply NDr.pure
            · exact ⟨rfl, rfl⟩
            apply NDr.efw []
            · exact ⟨rfl, rfl⟩
            · repeat (first | exact True.intro | refine ⟨by first | exact rfl | exact True.intro, ?_⟩)
            apply NDr.efw [2]
            · exact ⟨rfl, rfl⟩
            · repeat (first | exact True.intro | refine ⟨by first | exact rfl | exact True.intro, ?_⟩)
            refine NP.mk (by kernel_rfl) ?_
            refine NCall.call (a2) rfl rfl ?_
            refine NCall.call (a3) rfl rfl ?_
            refine ND.yes (by omega) ?_
            refine ND.no (by omega) ?_
            refine NP.mk (by kernel_rfl) ?_
            apply NDr.rd [3]
            · intro fH TH
              exact ⟨rfl, rfl⟩
            apply NDr.rd [4]
            · intro fH TH
              exact ⟨rfl, rfl⟩
            apply NDr.pure
            · refine NCall.call (ACalls.args (c1) (by repeat (first | exact LeA.refl _ | exact LeA.nils _ | refine LeA.agg ?_ | refine LeA.list _ ?_ | exact LeAs.nil | refine LeAs.cons ?_ ?_))) rfl rfl ?_
              exact ⟨rfl, rfl⟩
            apply NDr.pure
            · exact ⟨rfl, rfl⟩
            apply NDr.pure
            · exact ⟨rfl, rfl⟩
            apply NDr.rd [2]
            · intro fH TH
              exact ⟨rfl, rfl⟩
            apply NDr.pure
            · refine NCall.call (a4) rfl rfl ?_
              exact ⟨rfl, rfl⟩
            apply NDr.rd [0]
            · intro fH TH
              exact ⟨rfl, rfl⟩
            apply NDr.pure
            · refine NCall.call (a5) rfl rfl ?_
              exact ⟨rfl, rfl⟩
            apply NDr.pure
            · refine ND.yes (by simp) ?_
              exact ⟨rfl, rfl⟩
            apply NDr.pure
            · exact ⟨rfl, rfl⟩
            apply NDr.pure
            · exact ⟨rfl, rfl⟩
            apply NDr.rd [2]
            · intro fH TH
              exact ⟨rfl, rfl⟩
            apply NDr.pure
            · refine NCall.call (a6) rfl rfl ?_
              exact ⟨rfl, rfl⟩
            apply NDr.rd [0]
            · intro fH TH
              exact ⟨rfl, rfl⟩
            apply NDr.pure
            · refine NCall.call (a7) rfl rfl ?_
              exact ⟨rfl, rfl⟩
            apply NDr.pure
            · refine NCall.call (a8) rfl rfl ?_
              exact ⟨rfl, rfl⟩
            apply NDr.pure
            · exact ⟨rfl, rfl⟩
            apply NDr.pure
            · exact ⟨rfl, rfl⟩
            apply NDr.pure
            · exact ⟨rfl, rfl⟩
            apply NDr.rd [2]
            · intro fH TH
              exact ⟨rfl, rfl⟩
            apply NDr.pure
            · exact ⟨rfl, rfl⟩
            apply NDr.pure
            · refine NCall.call (b1) rfl rfl ?_
              exact ⟨rfl, rfl⟩
            apply NDr.rd [0]
            · intro fH TH
              exact ⟨rfl, rfl⟩
            apply NDr.pure
            · exact ⟨rfl, rfl⟩
            apply NDr.pure
            · refine NCall.call (b2) rfl rfl ?_
              exact ⟨rfl, rfl⟩
            apply NDr.pure
            · refine NCall.call (b3) rfl rfl ?_
              exact ⟨rfl, rfl⟩
            apply NDr.pure
            · exact ⟨rfl, rfl⟩
            apply NDr.pure
            · exact ⟨rfl, rfl⟩
            refine NP.mk (by kernel_rfl) ?_
            refine NCall.call (b5) rfl rfl ?_
            refine NCall.call (b6) rfl rfl ?_
            refine ND.yes (by omega) ?_
            refine NCall.call (b7) rfl rfl ?_
            refine NCall.call (b8) rfl rfl ?_
            refine NCall.call (b4) rfl rfl ?_
            exact NRet.mk [] rfl ⟨.refl _, rfl⟩
      · refine NCall.call (awake16) rfl rfl ?_
        refine NCall.call (s1) rfl rfl ?_
        refine NCall.call (s2) rfl rfl ?_
        refine ND.yes (by (simp only [List.length_map, List.length_append, List.length_replicate, List.length_cons, List.length_nil, List.length_take, List.length_drop]; omega)) ?_
        exact NRet.mk [] rfl ⟨.refl _, rfl⟩
end Go.Bv
