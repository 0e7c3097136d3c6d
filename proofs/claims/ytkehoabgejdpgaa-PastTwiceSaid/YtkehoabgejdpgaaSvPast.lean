/- Part of the lift: an abstract walk of the program's code, proved sound, and what it shows of this program. -/
import Derived.Test.YtkehoabgejdpgaaSvQueue
namespace Go.Bv
set_option linter.unusedSimpArgs false
set_option linter.unusedVariables false
set_option maxHeartbeats 4000000
set_option maxRecDepth 20000
open Go Go.Proofs

def smP (p : Past) : Prop := p.floor.length ≤ 2 ^ 30 ∧ p.list.length ≤ 2 ^ 30 ∧ ∀ t ∈ p.list, smTxn t
theorem nexts_take {l : List Txn} {i : Nat} (h : i < l.length) (v : List Int) : nexts v (l.take (i + 1)) = next (nexts v (l.take i)) l[i] := by
  rw [List.take_succ_eq_append_getElem h, nexts_snoc]
theorem endP_len (p : Past) : (endP p).length ≤ max p.floor.length 8 := by
  have h1 := nexts_len p.list (trim p.floor)
  have h2 := trim_len p.floor
  unfold endP; omega
theorem end_walk (p : Past) (hp : smP p) : ACalls Try.prog Nm.past_End [pastA p] [] (ints (endP p)) [] := by
  refine ACalls_of tab (dr_snd tab mixed) Nm.past_End_h rfl (by kernel_rfl) (Nat.le_of_ble_eq_true rfl) rfl ?_
  obtain ⟨h1, h2, h3⟩ := hp
  have k1 := vecTrim_walk p.floor (by omega)
  refine NCall.call (k1) rfl rfl ?_
  refine NLoop.mk [] [3, 10, 11, 12] (fun m vs H => ∃ i, i ≤ p.list.length ∧ m = p.list.length - i ∧ H = [] ∧ vs = [ints (nexts (trim p.floor) (p.list.take i)), txnsA p.list, i64 p.list.length, i64 i]) rfl ?_ ?_
  · exact Canon.mk [] rfl ⟨p.list.length, 0, Nat.zero_le _, rfl, rfl, by simp [ints, txnsA, i64, nexts_nil]⟩
  · rintro m vs H ⟨i, hi, rfl, rfl, rfl⟩
    by_cases hil : i < p.list.length
    · have hn := nexts_take hil (trim p.floor)
      have hl := nexts_len (p.list.take i) (trim p.floor)
      have hl2 := trim_len p.floor
      have k2 := next_walk (nexts (trim p.floor) (p.list.take i)) p.list[i] (by omega)
      rw [← hn] at k2
      refine ND.yes (by omega) ?_
      refine NP.mk (by omega) ?_
      refine NG.mapN (by omega) ?_
      refine NCall.call (k2) rfl rfl ?_
      refine NW.i64 (by omega) (by omega) ?_
      exact Canon.mk [] rfl ⟨p.list.length - (i + 1), by omega, i + 1, by omega, rfl, rfl, rfl⟩
    · rw [List.take_of_length_le (by omega)]
      refine ND.no (by omega) ?_
      exact NRet.mk [] rfl ⟨.refl _, rfl⟩
theorem end16_walk (p : Past) (hp : smP p) : ACalls Try.prog Nm.ref16_End [pastA p] [] (ints (endP p)) [] := by
  refine ACalls_of tab (dr_snd tab mixed) Nm.ref16_End_h rfl (by kernel_rfl) (Nat.le_of_ble_eq_true rfl) rfl ?_
  obtain ⟨h1, h2, h3⟩ := hp
  skip
  refine NLoop.mk [] [1, 3, 4] (fun m vs H => ∃ i, i ≤ p.list.length ∧ m = p.list.length - i ∧ H = [.row .box (.agg 2) [pastA p]] ∧ vs = [.ptr 0 0 0, ints (nexts p.floor (p.list.take i)), i64 i]) rfl ?_ ?_
  · exact Canon.mk [0] rfl ⟨p.list.length, 0, Nat.zero_le _, rfl, rfl, rfl⟩
  · rintro m vs H ⟨i, hi, rfl, rfl, rfl⟩
    by_cases hil : i < p.list.length
    · have hn := nexts_take hil p.floor
      have hl := nexts_len (p.list.take i) p.floor
      have k2 := next14_walk (nexts p.floor (p.list.take i)) p.list[i] (by omega)
      rw [← hn] at k2
      refine ND.yes (by (simp only [List.length_map, List.length_append, List.length_replicate, List.length_cons, List.length_nil, List.length_take, List.length_drop]; omega)) ?_
      refine NP.mk (by omega) ?_
      refine NG.mapN (by omega) ?_
      refine NCall.call (k2) rfl rfl ?_
      refine NW.i64 (by omega) (by omega) ?_
      exact Canon.mk [0] rfl ⟨p.list.length - (i + 1), by omega, i + 1, by omega, rfl, rfl, rfl⟩
    · rw [List.take_of_length_le (by omega)]
      have hl := nexts_len p.list p.floor
      have k2 := trim7_walk (nexts p.floor p.list) (by omega)
      rw [endP_eq] at k2
      refine ND.no (by (simp only [List.length_map, List.length_append, List.length_replicate, List.length_cons, List.length_nil, List.length_take, List.length_drop]; omega)) ?_
      refine NCall.call (k2) rfl rfl ?_
      exact NRet.mk [] rfl ⟨.refl _, rfl⟩
theorem heard16_walk (v : List Int) (t : Txn) (hv : v.length ≤ 2 ^ 40) : ACalls Try.prog Nm.ref16_heard [ints v, txnA t] [] (.bool (hasT v t)) [] := by
  refine ACalls_of tab (dr_snd tab mixed) Nm.ref16_heard_h rfl (by kernel_rfl) (Nat.le_of_ble_eq_true rfl) rfl ?_
  have k1 := at7_walk v t.node hv
  refine NP.mk (by kernel_rfl) ?_
  apply NDr.rd [0]
  · intro fH TH
    exact ⟨rfl, rfl⟩
  apply NDr.rd [0]
  · intro fH TH
    exact ⟨rfl, rfl⟩
  apply NDr.pure
  · exact NB.det
  apply NDr.pure
  · exact ⟨rfl, rfl⟩
  refine NB.mk (fun hk2 => ?_) (fun hk2 => ?_)
  · apply NDr.rd [0]
    · intro fH TH
      exact ⟨rfl, rfl⟩
    refine NB.yes (by assumption) ?_
    apply NDr.rd [0]
    · intro fH TH
      exact ⟨rfl, rfl⟩
    refine NB.yes (by assumption) ?_
    apply NDr.pure
    · exact ⟨rfl, rfl⟩
    refine NB.yes (by assumption) ?_
    apply NDr.rd [0]
    · intro fH TH
      exact ⟨rfl, rfl⟩
    refine NB.yes (by assumption) ?_
    apply NDr.rd [0]
    · intro fH TH
      exact ⟨rfl, rfl⟩
    refine NB.yes (by assumption) ?_
    apply NDr.pure
    · refine NCall.call (k1) rfl rfl ?_
      exact ⟨rfl, rfl⟩
    refine NB.yes (by assumption) ?_
    apply NDr.pure
    · exact NB.det
    apply NDr.pure
    · refine NB.yes (by assumption) ?_
      exact ⟨rfl, rfl⟩
    apply NDr.pure
    · exact ⟨rfl, rfl⟩
    refine NP.mk (by kernel_rfl) ?_
    refine NRet.boolE ?_ (NRet.mk [] rfl ⟨.refl _, rfl⟩)
    grind [hasT, hasB]
  refine NB.no (by assumption) ?_
  refine NB.no (by assumption) ?_
  refine NB.no (by assumption) ?_
  refine NB.no (by assumption) ?_
  refine NB.no (by assumption) ?_
  refine NB.no (by assumption) ?_
  apply NDr.pure
  · refine NB.no (by assumption) ?_
    exact ⟨rfl, rfl⟩
  apply NDr.pure
  · exact ⟨rfl, rfl⟩
  refine NP.mk (by kernel_rfl) ?_
  refine NRet.boolE (b := false) ?_ (NRet.mk [] rfl ⟨.refl _, rfl⟩)
  grind [hasT, hasB]
theorem left16_walk (l : List Txn) (v : List Int) (hl : l.length ≤ 2 ^ 30) (hv : v.length ≤ 2 ^ 40) : ACalls Try.prog Nm.ref16_Left [txnsA l, ints v] [] (txnsA (leftB l v)) [] := by
  refine ACalls_of tab (dr_snd tab mixed) Nm.ref16_Left_h rfl (by kernel_rfl) (Nat.le_of_ble_eq_true rfl) rfl ?_
  refine NLoop.mk [(5, .agg 4)] [0, 1, 5, 6] (fun m vs H => ∃ i, i ≤ l.length ∧ m = l.length - i ∧ H = [.row .vrow (.agg 4) ((leftB (l.take i) v).map txnA)] ∧ vs = [txnsA l, ints v, .own 0 0 ((leftB (l.take i) v).map txnA).length, i64 i]) rfl ?_ ?_
  · exact Canon.mk [0] rfl ⟨l.length, 0, Nat.zero_le _, rfl, rfl, rfl⟩
  · rintro m vs H ⟨i, hi, rfl, rfl, rfl⟩
    by_cases hil : i < l.length
    · have hs := leftB_snoc (l.take i) l[i] v
      rw [← List.take_succ_eq_append_getElem hil] at hs
      have hle := leftB_len (l.take i) v
      rw [List.length_take] at hle
      have k1 := heard16_walk v l[i] hv
      cases hh : hasT v l[i] with
      | true =>
        rw [hh] at k1 hs
        rw [if_pos rfl, List.append_nil] at hs
        refine ND.yes (by (simp only [List.length_map, List.length_append, List.length_replicate, List.length_cons, List.length_nil, List.length_take, List.length_drop]; omega)) ?_
        refine NP.mk (by omega) ?_
        refine NG.mapN (by omega) ?_
        refine NCall.call (k1) rfl rfl ?_
        refine NW.i64 (by omega) (by omega) ?_
        exact Canon.mk [0] rfl ⟨l.length - (i + 1), by omega, i + 1, by omega, rfl, by rw [hs] <;> rfl, by rw [hs] <;> rfl⟩
      | false =>
        rw [hh] at k1 hs
        rw [if_neg (by simp)] at hs
        refine ND.yes (by (simp only [List.length_map, List.length_append, List.length_replicate, List.length_cons, List.length_nil, List.length_take, List.length_drop]; omega)) ?_
        refine NP.mk (by omega) ?_
        refine NG.mapN (by omega) ?_
        refine NCall.call (k1) rfl rfl ?_
        refine NP.mk (by omega) ?_
        refine NG.mapN (by omega) ?_
        refine NFz.own ?_
        refine NApp.endA rfl (by simp; omega) ?_
        refine NW.i64 (by omega) (by omega) ?_
        exact Canon.mk [1] rfl ⟨l.length - (i + 1), by omega, i + 1, by omega, rfl, by rw [hs, List.map_append]; rfl, by rw [hs, List.map_append]; rfl⟩
    · rw [List.take_of_length_le (by omega)]
      refine ND.no (by (simp only [List.length_map, List.length_append, List.length_replicate, List.length_cons, List.length_nil, List.length_take, List.length_drop]; omega)) ?_
      exact NRet.mk [] rfl (NFrz.mk ((leftB l v).map txnA) (by simp) (by rw [List.drop_zero, List.take_of_length_le (by simp)]) ⟨.refl _, rfl⟩)
theorem same16_walk (a b : Past) (ha : smP a) : ACalls Try.prog Nm.ref16_Same [pastA a, pastA b] [] (.bool (decide (a = b))) [] := by
  refine ACalls_of tab (dr_snd tab mixed) Nm.ref16_Same_h rfl (by kernel_rfl) (Nat.le_of_ble_eq_true rfl) rfl ?_
  have h1 := equal7_walk a.floor b.floor (by have := ha.1; omega)
  have h2 := sameAll_walk a.list b.list (by have := ha.2.1; omega) ha.2.2
  rw [show decide (a = b) = (decide (a.floor = b.floor) && decide (a.list = b.list)) by rw [Bool.eq_iff_iff]; simp [Past.ext_iff]]
  refine NCall.call (h1) rfl rfl ?_
  refine NB.mk (fun hk1 => ?_) (fun hk1 => ?_)
  · refine NB.yes (by assumption) ?_
    refine NB.yes (by assumption) ?_
    refine NB.yes (by assumption) ?_
    refine NB.yes (by assumption) ?_
    refine NCall.call (h2) rfl rfl ?_
    refine NB.yes (by assumption) ?_
    refine NRet.boolE ?_ (NRet.mk [] rfl ⟨.refl _, rfl⟩)
    (simp [*]; done)
  refine NB.no (by assumption) ?_
  refine NB.no (by assumption) ?_
  refine NB.no (by assumption) ?_
  refine NB.no (by assumption) ?_
  refine NB.no (by assumption) ?_
  refine NRet.boolE (b := false) ?_ (NRet.mk [] rfl ⟨.refl _, rfl⟩)
  (simp [*]; done)
def shortP (p : Past) : Bool := decide (p.floor.length ≤ 60) && shortT p.list
theorem short16_walk (p : Past) (hp : okPast p) : ACalls Try.prog Nm.ref16_Short [pastA p] [] (.bool (shortP p)) [] := by
  refine ACalls_of tab (dr_snd tab mixed) Nm.ref16_Short_h rfl (by kernel_rfl) (Nat.le_of_ble_eq_true rfl) rfl ?_
  obtain ⟨⟨h1, _⟩, h2, h3⟩ := hp
  have h1 := reach_lt h1
  have h2 := reach_lt h2
  have k1 := short13_walk p.list (by omega) h3
  rw [shortP]
  refine NB.dec (fun hk1 => ?_) (fun hk1 => ?_)
  · refine NCall.call (k1) rfl rfl ?_
    refine NRet.boolE ?_ (NRet.mk [] rfl ⟨.refl _, rfl⟩)
    grind
  refine NRet.boolE (b := false) ?_ (NRet.mk [] rfl ⟨.refl _, rfl⟩)
  grind
theorem closed16_walk (l : List Txn) (v : List Int) (hl : l.length ≤ 2 ^ 30) (hx : ∀ t ∈ l, smTxn t) (hv : v.length ≤ 2 ^ 38) : ACalls Try.prog Nm.ref16_Closed [txnsA l, ints v] [] (.bool (l.all fun t => !hasT v t || vwithin t.deps v)) [] := by
  refine ACalls_of tab (dr_snd tab mixed) Nm.ref16_Closed_h rfl (by kernel_rfl) (Nat.le_of_ble_eq_true rfl) rfl ?_
  refine NLoop.mk [] [0, 1, 5] (fun m vs H => ∃ i, i ≤ l.length ∧ m = l.length - i ∧ (∀ x ∈ l.take i, (!hasT v x || vwithin x.deps v) = true) ∧ H = [] ∧ vs = [txnsA l, ints v, i64 i]) rfl ?_ ?_
  · exact Canon.mk [] rfl ⟨l.length, 0, Nat.zero_le _, rfl, by simp, rfl, rfl⟩
  · rintro m vs H ⟨i, hi, rfl, ht, rfl, rfl⟩
    by_cases hil : i < l.length
    · obtain ⟨f1, f2⟩ := all_step (p := fun x => !hasT v x || vwithin x.deps v) hil ht
      have hs := hx _ (List.getElem_mem hil)
      have k1 := heard16_walk v l[i] (by omega)
      have k2 := within7_walk l[i].deps v (by have := hs.2.1; omega) hv
      have fin : (!hasT v l[i] || vwithin l[i].deps v) = true → ∃ m', m' < l.length - i ∧ ∃ i', i' ≤ l.length ∧ m' = l.length - i' ∧ (∀ x ∈ l.take i', (!hasT v x || vwithin x.deps v) = true) ∧ ([] : List Blk) = [] ∧ [txnsA l, ints v, i64 ((i + 1 : Nat) : Int)] = [txnsA l, ints v, i64 i'] := fun h =>
        ⟨l.length - (i + 1), by omega, i + 1, by omega, rfl, f2 h, rfl, rfl⟩
      have bad : (!hasT v l[i] || vwithin l[i].deps v) = false → false = l.all fun t => !hasT v t || vwithin t.deps v := fun h => (f1 h).symm
      refine ND.yes (by (simp only [List.length_map, List.length_append, List.length_replicate, List.length_cons, List.length_nil, List.length_take, List.length_drop]; omega)) ?_
      refine NP.mk (by omega) ?_
      refine NG.mapN (by omega) ?_
      refine NCall.call (k1) rfl rfl ?_
      refine NB.mk (fun hk2 => ?_) (fun hk2 => ?_)
      · refine NB.yes (by assumption) ?_
        refine NB.yes (by assumption) ?_
        refine NP.mk (by omega) ?_
        refine NG.mapN (by omega) ?_
        refine NB.yes (by assumption) ?_
        refine NB.yes (by assumption) ?_
        refine NB.yes (by assumption) ?_
        refine NB.yes (by assumption) ?_
        refine NCall.call (k2) rfl rfl ?_
        refine NB.yes (by assumption) ?_
        refine NB.mk (fun hk10 => ?_) (fun hk10 => ?_)
        · refine NB.yes (by assumption) ?_
          refine NW.i64 (by omega) (by omega) ?_
          exact (Canon.mk [] rfl (fin (by simp [*])))
        refine NB.yes (by assumption) ?_
        refine NRet.boolE (b := false) ?_ (NRet.mk [] rfl ⟨.refl _, rfl⟩)
        grind
      refine NB.no (by assumption) ?_
      refine NB.no (by assumption) ?_
      refine NB.no (by assumption) ?_
      refine NB.no (by assumption) ?_
      refine NB.no (by assumption) ?_
      refine NB.no (by assumption) ?_
      refine NB.no (by assumption) ?_
      refine NB.no (by assumption) ?_
      refine NW.i64 (by omega) (by omega) ?_
      exact (Canon.mk [] rfl (fin (by simp [*])))
    · have : i = l.length := by omega
      subst this
      rw [all_end ht]
      refine ND.no (by (simp only [List.length_map, List.length_append, List.length_replicate, List.length_cons, List.length_nil, List.length_take, List.length_drop]; omega)) ?_
      exact NRet.mk [] rfl ⟨.refl _, rfl⟩
theorem sound16_walk (p : Past) (hp : smP p) : ACalls Try.prog Nm.ref16_Sound [pastA p] [] (.bool (soundP p)) [] := by
  refine ACalls_of tab (dr_snd tab mixed) Nm.ref16_Sound_h rfl (by kernel_rfl) (Nat.le_of_ble_eq_true rfl) rfl ?_
  obtain ⟨h1, h2, h3⟩ := hp
  have k1 := trim7_walk p.floor (by omega)
  have k2 := equal7_walk p.floor (trim p.floor) (by omega)
  by_cases hf : p.floor = trim p.floor
  · rw [decide_eq_true hf] at k2
    refine NCall.call (k1) rfl rfl ?_
    refine NCall.call (k2) rfl rfl ?_
    refine NLoop.mk [] [1, 3, 4] (fun m vs H => ∃ (i : Nat) (w : List Int), i ≤ p.list.length ∧ m = p.list.length - i ∧ w.length ≤ 2 ^ 30 ∧ (∀ x ∈ p.list.take i, formed x = true) ∧ chain p.floor p.list = chain w (p.list.drop i) ∧ H = [.row .box (.agg 2) [pastA p]] ∧ vs = [.ptr 0 0 0, ints w, i64 i]) rfl ?_ ?_
    · exact Canon.mk [0] rfl ⟨p.list.length, 0, p.floor, Nat.zero_le _, rfl, h1, by simp, rfl, rfl, rfl⟩
    · rintro m vs H ⟨i, w, hi, rfl, hw, ht, hc, rfl, rfl⟩
      by_cases hil : i < p.list.length
      · obtain ⟨f1, f2⟩ := all_step hil ht
        have hs := h3 _ (List.getElem_mem hil)
        have k3 := formed13_walk p.list[i] hs
        have k4 := ready14_walk w p.list[i] (by omega) (by have := hs.2.1; omega) hs.1
        have k5 := next14_walk w p.list[i] (by omega)
        have hn := next_len w p.list[i]
        rw [chain_drop hil] at hc
        cases hfm : formed p.list[i] with
        | false =>
          rw [hfm] at k3
          have e1 : soundP p = false := by unfold soundP; rw [f1 hfm, Bool.and_false, Bool.and_false]
          rw [e1]
          refine ND.yes (by (simp only [List.length_map, List.length_append, List.length_replicate, List.length_cons, List.length_nil, List.length_take, List.length_drop]; omega)) ?_
          refine NP.mk (by omega) ?_
          refine NG.mapN (by omega) ?_
          refine NCall.call (k3) rfl rfl ?_
          exact NRet.mk [] rfl ⟨.refl _, rfl⟩
        | true =>
          rw [hfm] at k3
          cases hr : ready w p.list[i] with
          | false =>
            rw [hr] at k4 hc
            rw [Bool.false_and] at hc
            have e1 : soundP p = false := by unfold soundP; rw [hc, Bool.false_and, Bool.and_false]
            rw [e1]
            refine ND.yes (by (simp only [List.length_map, List.length_append, List.length_replicate, List.length_cons, List.length_nil, List.length_take, List.length_drop]; omega)) ?_
            refine NP.mk (by omega) ?_
            refine NG.mapN (by omega) ?_
            refine NCall.call (k3) rfl rfl ?_
            refine NP.mk (by omega) ?_
            refine NG.mapN (by omega) ?_
            refine NCall.call (k4) rfl rfl ?_
            exact NRet.mk [] rfl ⟨.refl _, rfl⟩
          | true =>
            rw [hr, Bool.true_and] at hc
            rw [hr] at k4
            refine ND.yes (by (simp only [List.length_map, List.length_append, List.length_replicate, List.length_cons, List.length_nil, List.length_take, List.length_drop]; omega)) ?_
            refine NP.mk (by omega) ?_
            refine NG.mapN (by omega) ?_
            refine NCall.call (k3) rfl rfl ?_
            refine NP.mk (by omega) ?_
            refine NG.mapN (by omega) ?_
            refine NCall.call (k4) rfl rfl ?_
            refine NP.mk (by omega) ?_
            refine NG.mapN (by omega) ?_
            refine NCall.call (k5) rfl rfl ?_
            refine NW.i64 (by omega) (by omega) ?_
            exact Canon.mk [0] rfl ⟨p.list.length - (i + 1), by omega, i + 1, next w p.list[i], by omega, rfl, by omega, f2 hfm, hc, rfl, rfl⟩
      · have : i = p.list.length := by omega
        subst this
        rw [List.drop_eq_nil_of_le (Nat.le_refl _)] at hc
        have e1 : soundP p = true := by unfold soundP; rw [decide_eq_true hf.symm, all_end ht, hc]; rfl
        rw [e1]
        refine ND.no (by (simp only [List.length_map, List.length_append, List.length_replicate, List.length_cons, List.length_nil, List.length_take, List.length_drop]; omega)) ?_
        exact NRet.mk [] rfl ⟨.refl _, rfl⟩
  · rw [decide_eq_false hf] at k2
    have e1 : soundP p = false := by unfold soundP; rw [decide_eq_false fun e => hf e.symm]; rfl
    rw [e1]
    refine NCall.call (k1) rfl rfl ?_
    refine NCall.call (k2) rfl rfl ?_
    exact NRet.mk [] rfl ⟨.refl _, rfl⟩
theorem all_walk' (t : Txn) : ACalls Try.prog Nm.past_all [txnA t] [] (.bool true) [] := by
  refine ACalls_of tab (dr_snd tab mixed) Nm.past_all_h rfl (by kernel_rfl) (Nat.le_of_ble_eq_true rfl) rfl ?_
  exact NRet.mk [] rfl ⟨.refl _, rfl⟩
theorem keep16_walk (p : Past) (t : Txn) (hp : smP p) (ht : smTxn t) : ACalls Try.prog Nm.ref16_Keep [pastA p, txnA t] [] (i64 (keepP p t)) [] := by
  refine ACalls_of tab (dr_snd tab mixed) Nm.ref16_Keep_h rfl (by kernel_rfl) (Nat.le_of_ble_eq_true rfl) rfl ?_
  have k1 := end16_walk p hp
  have k2 := formed13_walk t ht
  have hle := endP_len p
  have hpl := hp.1
  have hp2 := hp.2.1
  have k3 := heard16_walk (endP p) t (by omega)
  have k4 := ready14_walk (endP p) t (by omega) (by have := ht.2.1; omega) ht.1
  cases h1 : formed t with
  | false =>
    rw [h1] at k2
    rw [show keepP p t = 2 by unfold keepP; simp [h1]]
    refine NCall.call (k1) rfl rfl ?_
    refine NCall.call (k2) rfl rfl ?_
    exact NRet.mk [] rfl ⟨.refl _, rfl⟩
  | true =>
    rw [h1] at k2
    cases h2 : hasT (endP p) t with
    | true =>
      rw [h2] at k3
      rw [show keepP p t = 8 by unfold keepP; simp [h1, h2]]
      refine NCall.call (k1) rfl rfl ?_
      refine NCall.call (k2) rfl rfl ?_
      refine NCall.call (k3) rfl rfl ?_
      exact NRet.mk [] rfl ⟨.refl _, rfl⟩
    | false =>
      rw [h2] at k3
      cases h3 : ready (endP p) t with
      | false =>
        rw [h3] at k4
        rw [show keepP p t = 9 by unfold keepP; simp [h1, h2, h3]]
        refine NCall.call (k1) rfl rfl ?_
        refine NCall.call (k2) rfl rfl ?_
        refine NCall.call (k3) rfl rfl ?_
        refine NCall.call (k4) rfl rfl ?_
        exact NRet.mk [] rfl ⟨.refl _, rfl⟩
      | true =>
        rw [h3] at k4
        by_cases h4 : p.list.length < 4096
        · rw [show keepP p t = 0 by unfold keepP; simp [h1, h2, h3, h4]]
          refine NCall.call (k1) rfl rfl ?_
          refine NCall.call (k2) rfl rfl ?_
          refine NCall.call (k3) rfl rfl ?_
          refine NCall.call (k4) rfl rfl ?_
          refine ND.no (by (simp only [List.length_map, List.length_append, List.length_replicate, List.length_cons, List.length_nil, List.length_take, List.length_drop]; omega)) ?_
          exact NRet.mk [] rfl ⟨.refl _, rfl⟩
        · rw [show keepP p t = 6 by unfold keepP; simp [h1, h2, h3, h4]]
          refine NCall.call (k1) rfl rfl ?_
          refine NCall.call (k2) rfl rfl ?_
          refine NCall.call (k3) rfl rfl ?_
          refine NCall.call (k4) rfl rfl ?_
          refine ND.yes (by (simp only [List.length_map, List.length_append, List.length_replicate, List.length_cons, List.length_nil, List.length_take, List.length_drop]; omega)) ?_
          exact NRet.mk [] rfl ⟨.refl _, rfl⟩
theorem prune16_walk (p : Past) (to : List Int) (hp : smP p) (ht : to.length ≤ 2 ^ 30) : ACalls Try.prog Nm.ref16_Prune [pastA p, ints to] [] (pastA (pruneP p to)) [] := by
  refine ACalls_of tab (dr_snd tab mixed) Nm.ref16_Prune_h rfl (by kernel_rfl) (Nat.le_of_ble_eq_true rfl) rfl ?_
  have k1 := end16_walk p hp
  have hle := endP_len p
  obtain ⟨h1, h2, h3⟩ := hp
  have k2 := lay7_walk to (endP p) false (by omega) (by omega)
  have hml := meet_len to (endP p)
  have k3 := lay7_walk p.floor (meet to (endP p)) true (by omega) (by omega)
  have hjl := join_len p.floor (meet to (endP p))
  have k4 := left16_walk p.list (pruneF p to) h2 (by unfold pruneF; omega)
  have k2 : ACalls Try.prog Nm.ref07_Lay [ints to, ints (endP p), .bool false] [] (ints (meet to (endP p))) [] := k2
  have k3 : ACalls Try.prog Nm.ref07_Lay [ints p.floor, ints (meet to (endP p)), .bool true] [] (ints (pruneF p to)) [] := k3
  refine NP.mk (by kernel_rfl) ?_
  apply NDr.rd [0]
  · intro fH TH
    exact ⟨rfl, rfl⟩
  apply NDr.rd [0]
  · intro fH TH
    exact ⟨rfl, rfl⟩
  apply NDr.pure
  · exact ⟨rfl, rfl⟩
  apply NDr.rd [0]
  · intro fH TH
    exact ⟨rfl, rfl⟩
  apply NDr.pure
  · refine NCall.call (k1) rfl rfl ?_
    exact ⟨rfl, rfl⟩
  apply NDr.pure
  · refine NCall.call (k2) rfl rfl ?_
    exact ⟨rfl, rfl⟩
  apply NDr.pure
  · refine NCall.call (k3) rfl rfl ?_
    exact ⟨rfl, rfl⟩
  apply NDr.pure
  · exact ⟨rfl, rfl⟩
  refine NP.mk (by kernel_rfl) ?_
  refine NCall.call (k4) rfl rfl ?_
  exact NRet.mk [] rfl ⟨.refl _, rfl⟩
theorem pruneF_walk (v : List Int) (t : Txn) (hv : v.length ≤ 2 ^ 38) : ACalls Try.prog Nm.past_Prune_1 [txnA t, .ptr 0 0 0] [.row .box .leaf [ints v]] (.bool (!hasT v t)) [.row .box .leaf [ints v]] := by
  refine ACalls_of tab (dr_snd tab mixed) Nm.past_Prune_1_h rfl (by kernel_rfl) (Nat.le_of_ble_eq_true rfl) rfl ?_
  have h1 := dot_walk t
  have h2 : ACalls Try.prog Nm.vec_Has [ints v, .agg [i64 t.node, i64 t.seq, i64 0]] [] (.bool (hasT v t)) [] := vecHas_walk v t.node t.seq 0 (by omega)
  refine NP.mk (by kernel_rfl) ?_
  apply NDr.rd [0]
  · intro fH TH
    exact ⟨rfl, rfl⟩
  apply NDr.rd [1]
  · intro fH TH
    exact ⟨rfl, rfl⟩
  apply NDr.pure
  · refine NCall.call (h1) rfl rfl ?_
    exact ⟨rfl, rfl⟩
  apply NDr.pure
  · refine NCall.call (h2) rfl rfl ?_
    exact ⟨rfl, rfl⟩
  apply NDr.pure
  · exact NB.det0'
  apply NDr.pure
  · exact ⟨rfl, rfl⟩
  refine NP.mk (by kernel_rfl) ?_
  exact NRet.mk [] rfl ⟨.refl _, rfl⟩
theorem sinceF_walk (v : List Int) (t : Txn) (hv : v.length ≤ 2 ^ 38) : ACalls Try.prog Nm.past_Since_1 [txnA t, .ptr 0 0 0] [.row .box .leaf [ints v]] (.bool (!hasT v t)) [.row .box .leaf [ints v]] := by
  refine ACalls_of tab (dr_snd tab mixed) Nm.past_Since_1_h rfl (by kernel_rfl) (Nat.le_of_ble_eq_true rfl) rfl ?_
  have h1 := dot_walk t
  have h2 : ACalls Try.prog Nm.vec_Has [ints v, .agg [i64 t.node, i64 t.seq, i64 0]] [] (.bool (hasT v t)) [] := vecHas_walk v t.node t.seq 0 (by omega)
  refine NP.mk (by kernel_rfl) ?_
  apply NDr.rd [0]
  · intro fH TH
    exact ⟨rfl, rfl⟩
  apply NDr.rd [1]
  · intro fH TH
    exact ⟨rfl, rfl⟩
  apply NDr.pure
  · refine NCall.call (h1) rfl rfl ?_
    exact ⟨rfl, rfl⟩
  apply NDr.pure
  · refine NCall.call (h2) rfl rfl ?_
    exact ⟨rfl, rfl⟩
  apply NDr.pure
  · exact NB.det0'
  apply NDr.pure
  · exact ⟨rfl, rfl⟩
  refine NP.mk (by kernel_rfl) ?_
  exact NRet.mk [] rfl ⟨.refl _, rfl⟩
theorem copiedL_walk (g : Nat) (v : List Int) (l : List Txn) (p : Txn → Bool) (hl : l.length ≤ 2 ^ 30) (hx : ∀ t ∈ l, smTxn t) (hg : ∀ t ∈ l, ACalls Try.prog g [txnA t, .ptr 0 0 0] [.row .box .leaf [ints v]] (.bool (p t)) [.row .box .leaf [ints v]]) :
    ACalls Try.prog Nm.past_copied [txnsA l, .fn g [.ptr 0 0 0]] [.row .box .leaf [ints v]] (txnsA (l.filter p)) [.row .box .leaf [ints v]] := by
  refine ACalls_of tab (dr_snd tab mixed) Nm.past_copied_h rfl (by kernel_rfl) (Nat.le_of_ble_eq_true rfl) rfl ?_
  refine NLoop.mk [(5, .agg 4)] [1, 5, 8, 9, 10] (fun m vs H => ∃ i, i ≤ l.length ∧ m = l.length - i ∧ H = [.row .box .leaf [ints v], .row .vrow (.agg 4) (((l.take i).filter p).map txnA)] ∧ vs = [.fn g [.ptr 0 0 0], .own 1 0 (((l.take i).filter p).map txnA).length, txnsA l, i64 l.length, i64 i]) rfl ?_ ?_
  · exact Canon.mk [1] rfl ⟨l.length, 0, Nat.zero_le _, rfl, rfl, by simp [txnsA, i64]⟩
  · rintro m vs H ⟨i, hi, rfl, rfl, rfl⟩
    by_cases hil : i < l.length
    · have hs := filter_take p l hil
      have hfl : ((l.take i).filter p).length ≤ i := Nat.le_trans (List.length_filter_le _ _) (by simp; omega)
      have hc := hg _ (List.getElem_mem hil)
      have hd := txnOnlyAll_walk l[i] (hx _ (List.getElem_mem hil))
      cases hp : p l[i] with
      | true =>
        rw [hp] at hc
        rw [hp, if_pos rfl] at hs
        refine ND.yes (by omega) ?_
        refine NP.mk (by omega) ?_
        refine NG.mapN (by omega) ?_
        refine NCall.subSame [0] (hc) ?_
        refine NCall.call (hd) rfl rfl ?_
        refine NFz.own ?_
        refine NApp.endA rfl (by simp; omega) ?_
        refine NW.i64 (by omega) (by omega) ?_
        exact Canon.mk [3] rfl ⟨l.length - (i + 1), by omega, i + 1, by omega, rfl, by rw [hs, List.map_append]; rfl, by rw [hs, List.map_append]; rfl⟩
      | false =>
        rw [hp] at hc
        rw [hp, if_neg (by simp)] at hs
        refine ND.yes (by omega) ?_
        refine NP.mk (by omega) ?_
        refine NG.mapN (by omega) ?_
        refine NCall.subSame [0] (hc) ?_
        refine NW.i64 (by omega) (by omega) ?_
        exact Canon.mk [1] rfl ⟨l.length - (i + 1), by omega, i + 1, by omega, rfl, by rw [hs] <;> rfl, by rw [hs] <;> rfl⟩
    · rw [List.take_of_length_le (by omega)]
      refine ND.no (by omega) ?_
      exact NRet.mk [] rfl (NFrz.mk ((l.filter p).map txnA) (by simp) (by rw [List.drop_zero, List.take_of_length_le (by simp)]) ⟨.refl _, rfl⟩)
theorem copied_walk (g : Nat) (l : List Txn) (p : Txn → Bool) (hl : l.length ≤ 2 ^ 30) (hx : ∀ t ∈ l, smTxn t) (hg : ∀ t ∈ l, ACalls Try.prog g [txnA t] [] (.bool (p t)) []) :
    ACalls Try.prog Nm.past_copied [txnsA l, .fn g []] [] (txnsA (l.filter p)) [] := by
  refine ACalls_of tab (dr_snd tab mixed) Nm.past_copied_h rfl (by kernel_rfl) (Nat.le_of_ble_eq_true rfl) rfl ?_
  refine NLoop.mk [(5, .agg 4)] [1, 5, 8, 9, 10] (fun m vs H => ∃ i, i ≤ l.length ∧ m = l.length - i ∧ H = [.row .vrow (.agg 4) (((l.take i).filter p).map txnA)] ∧ vs = [.fn g [], .own 0 0 (((l.take i).filter p).map txnA).length, txnsA l, i64 l.length, i64 i]) rfl ?_ ?_
  · exact Canon.mk [0] rfl ⟨l.length, 0, Nat.zero_le _, rfl, rfl, by simp [txnsA, i64]⟩
  · rintro m vs H ⟨i, hi, rfl, rfl, rfl⟩
    by_cases hil : i < l.length
    · have hs := filter_take p l hil
      have hfl : ((l.take i).filter p).length ≤ i := Nat.le_trans (List.length_filter_le _ _) (by simp; omega)
      have hc := hg _ (List.getElem_mem hil)
      have hd := txnOnlyAll_walk l[i] (hx _ (List.getElem_mem hil))
      cases hp : p l[i] with
      | true =>
        rw [hp] at hc
        rw [hp, if_pos rfl] at hs
        refine ND.yes (by omega) ?_
        refine NP.mk (by omega) ?_
        refine NG.mapN (by omega) ?_
        refine NCall.call (hc) rfl rfl ?_
        refine NCall.call (hd) rfl rfl ?_
        refine NFz.own ?_
        refine NApp.endA rfl (by simp; omega) ?_
        refine NW.i64 (by omega) (by omega) ?_
        exact Canon.mk [2] rfl ⟨l.length - (i + 1), by omega, i + 1, by omega, rfl, by rw [hs, List.map_append]; rfl, by rw [hs, List.map_append]; rfl⟩
      | false =>
        rw [hp] at hc
        rw [hp, if_neg (by simp)] at hs
        refine ND.yes (by omega) ?_
        refine NP.mk (by omega) ?_
        refine NG.mapN (by omega) ?_
        refine NCall.call (hc) rfl rfl ?_
        refine NW.i64 (by omega) (by omega) ?_
        exact Canon.mk [0] rfl ⟨l.length - (i + 1), by omega, i + 1, by omega, rfl, by rw [hs] <;> rfl, by rw [hs] <;> rfl⟩
    · rw [List.take_of_length_le (by omega)]
      refine ND.no (by omega) ?_
      exact NRet.mk [] rfl (NFrz.mk ((l.filter p).map txnA) (by simp) (by rw [List.drop_zero, List.take_of_length_le (by simp)]) ⟨.refl _, rfl⟩)
theorem notFormedF_walk (t : Txn) (ht : smTxn t) : ACalls Try.prog Nm.past_Sound_1 [txnA t] [] (.bool (!formed t)) [] := by
  refine ACalls_of tab (dr_snd tab mixed) Nm.past_Sound_1_h rfl (by kernel_rfl) (Nat.le_of_ble_eq_true rfl) rfl ?_
  refine NCall.call (formed_walk t ht) rfl rfl ?_
  refine NB.mk (fun hk1 => ?_) (fun hk1 => ?_)
  · refine NRet.boolE (b := false) ?_ (NRet.mk [] rfl ⟨.refl _, rfl⟩)
    (simp [*]; done)
  refine NRet.boolE (b := true) ?_ (NRet.mk [] rfl ⟨.refl _, rfl⟩)
  (simp [*]; done)
theorem indexTn_walk (g : Nat) (l : List Txn) (p : Txn → Bool) (hl : l.length ≤ 2 ^ 40) (hg : ∀ t ∈ l, ACalls Try.prog g [txnA t] [] (.bool (p t)) []) :
    ACalls Try.prog Nm.slices_IndexFunc_api_Txn_api_Txn [txnsA l, .fn g []] [] (i64 (ixI p l)) [] := by
  refine ACalls_of tab (dr_snd tab mixed) Nm.slices_IndexFunc_api_Txn_api_Txn_h rfl (by kernel_rfl) (Nat.le_of_ble_eq_true rfl) rfl ?_
  refine NLoop.mk [] [0, 1, 6, 7, 8] (fun m vs H => ∃ i, i ≤ l.length ∧ m = l.length - i ∧ (∀ x ∈ l.take i, p x = false) ∧ H = [] ∧ vs = [txnsA l, .fn g [], txnsA l, i64 l.length, i64 i]) rfl ?_ ?_
  · exact Canon.mk [] rfl ⟨l.length, 0, Nat.zero_le _, rfl, by simp, rfl, by simp [txnsA, i64]⟩
  · rintro m vs H ⟨i, hi, rfl, ht, rfl, rfl⟩
    by_cases hil : i < l.length
    · have hc := hg _ (List.getElem_mem hil)
      obtain ⟨f1, f2⟩ := find_step hil ht
      cases hp : p l[i] with
      | true =>
        rw [hp] at hc
        rw [f1 hp]
        refine ND.yes (by omega) ?_
        refine NP.mk (by omega) ?_
        refine NG.mapN (by omega) ?_
        refine NCall.call (hc) rfl rfl ?_
        exact NRet.mk [] rfl ⟨.refl _, rfl⟩
      | false =>
        rw [hp] at hc
        refine ND.yes (by omega) ?_
        refine NP.mk (by omega) ?_
        refine NG.mapN (by omega) ?_
        refine NCall.call (hc) rfl rfl ?_
        refine NW.i64 (by omega) (by omega) ?_
        exact Canon.mk [] rfl ⟨l.length - (i + 1), by omega, i + 1, by omega, rfl, f2 hp, rfl, rfl⟩
    · have : i = l.length := by omega
      subst this
      rw [List.take_length] at ht
      rw [find_none ht]
      refine ND.no (by omega) ?_
      exact NRet.mk [] rfl ⟨.refl _, rfl⟩
theorem containsTn_walk (g : Nat) (l : List Txn) (p : Txn → Bool) (hl : l.length ≤ 2 ^ 40) (hg : ∀ t ∈ l, ACalls Try.prog g [txnA t] [] (.bool (p t)) []) :
    ACalls Try.prog Nm.slices_ContainsFunc_api_Txn_api_Txn [txnsA l, .fn g []] [] (.bool (l.any p)) [] := by
  have hi := indexTn_walk g l p hl hg
  refine ACalls_of tab (dr_snd tab mixed) Nm.slices_ContainsFunc_api_Txn_api_Txn_h rfl (by kernel_rfl) (Nat.le_of_ble_eq_true rfl) rfl ?_
  rw [ixI_any]
  by_cases h : 0 ≤ ixI p l
  · rw [decide_eq_true h]
    refine NCall.call (hi) rfl rfl ?_
    refine ND.yes (by omega) ?_
    exact NRet.mk [] rfl ⟨.refl _, rfl⟩
  · rw [decide_eq_false h]
    refine NCall.call (hi) rfl rfl ?_
    refine ND.no (by omega) ?_
    exact NRet.mk [] rfl ⟨.refl _, rfl⟩
theorem sound_walk (p : Past) (hp : smP p) : ACalls Try.prog Nm.past_Sound [pastA p] [] (.bool (soundP p)) [] := by
  refine ACalls_of tab (dr_snd tab mixed) Nm.past_Sound_h rfl (by kernel_rfl) (Nat.le_of_ble_eq_true rfl) rfl ?_
  obtain ⟨h1, h2, h3⟩ := hp
  have k1 := vecTrim_walk p.floor (by omega)
  have hl := trim_len p.floor
  have k2 := equalV_walk (trim p.floor) p.floor (by omega)
  have k3 := chain_walk p.floor p.list (by omega) h2 h3
  have k4 := containsTn_walk Nm.past_Sound_1 p.list (fun t => !formed t) (by omega) (fun t ht => notFormedF_walk t (h3 t ht))
  have e1 : soundP p = (decide (trim p.floor = p.floor) && (chain p.floor p.list && !p.list.any fun t => !formed t)) := by
    unfold soundP
    rw [List.not_any_eq_all_not]
    simp
  rw [e1]
  by_cases hf : trim p.floor = p.floor
  · rw [decide_eq_true hf] at k2 ⊢
    cases hc : chain p.floor p.list with
    | true =>
      rw [hc] at k3
      refine NP.mk (by kernel_rfl) ?_
      apply NDr.rd [0]
      · intro fH TH
        exact ⟨rfl, rfl⟩
      apply NDr.rd [0]
      · intro fH TH
        exact ⟨rfl, rfl⟩
      apply NDr.pure
      · refine NCall.call (k1) rfl rfl ?_
        exact ⟨rfl, rfl⟩
      apply NDr.rd [0]
      · intro fH TH
        exact ⟨rfl, rfl⟩
      apply NDr.rd [0]
      · intro fH TH
        exact ⟨rfl, rfl⟩
      apply NDr.pure
      · refine NCall.call (k2) rfl rfl ?_
        exact ⟨rfl, rfl⟩
      apply NDr.pure
      · exact ⟨rfl, rfl⟩
      apply NDr.rd [0]
      · intro fH TH
        exact ⟨rfl, rfl⟩
      apply NDr.rd [0]
      · intro fH TH
        exact ⟨rfl, rfl⟩
      apply NDr.rd [0]
      · intro fH TH
        exact ⟨rfl, rfl⟩
      apply NDr.rd [0]
      · intro fH TH
        exact ⟨rfl, rfl⟩
      apply NDr.pure
      · refine NCall.call (k3) rfl rfl ?_
        exact ⟨rfl, rfl⟩
      apply NDr.pure
      · exact ⟨rfl, rfl⟩
      apply NDr.pure
      · exact ⟨rfl, rfl⟩
      apply NDr.rd [0]
      · intro fH TH
        exact ⟨rfl, rfl⟩
      apply NDr.rd [0]
      · intro fH TH
        exact ⟨rfl, rfl⟩
      apply NDr.pure
      · refine NCall.call (k4) rfl rfl ?_
        exact ⟨rfl, rfl⟩
      apply NDr.pure
      · exact NB.det0'
      apply NDr.pure
      · exact ⟨rfl, rfl⟩
      apply NDr.pure
      · exact ⟨rfl, rfl⟩
      refine NP.mk (by kernel_rfl) ?_
      exact NRet.mk [] rfl ⟨.refl _, rfl⟩
    | false =>
      rw [hc] at k3
      refine NP.mk (by kernel_rfl) ?_
      apply NDr.rd [0]
      · intro fH TH
        exact ⟨rfl, rfl⟩
      apply NDr.rd [0]
      · intro fH TH
        exact ⟨rfl, rfl⟩
      apply NDr.pure
      · refine NCall.call (k1) rfl rfl ?_
        exact ⟨rfl, rfl⟩
      apply NDr.rd [0]
      · intro fH TH
        exact ⟨rfl, rfl⟩
      apply NDr.rd [0]
      · intro fH TH
        exact ⟨rfl, rfl⟩
      apply NDr.pure
      · refine NCall.call (k2) rfl rfl ?_
        exact ⟨rfl, rfl⟩
      apply NDr.pure
      · exact ⟨rfl, rfl⟩
      apply NDr.rd [0]
      · intro fH TH
        exact ⟨rfl, rfl⟩
      apply NDr.rd [0]
      · intro fH TH
        exact ⟨rfl, rfl⟩
      apply NDr.rd [0]
      · intro fH TH
        exact ⟨rfl, rfl⟩
      apply NDr.rd [0]
      · intro fH TH
        exact ⟨rfl, rfl⟩
      apply NDr.pure
      · refine NCall.call (k3) rfl rfl ?_
        exact ⟨rfl, rfl⟩
      apply NDr.pure
      · exact ⟨rfl, rfl⟩
      apply NDr.pure
      · exact ⟨rfl, rfl⟩
      apply NDr.pure
      · exact ⟨rfl, rfl⟩
      apply NDr.pure
      · exact ⟨rfl, rfl⟩
      refine NP.mk (by kernel_rfl) ?_
      exact NRet.mk [] rfl ⟨.refl _, rfl⟩
  · rw [decide_eq_false hf] at k2 ⊢
    refine NP.mk (by kernel_rfl) ?_
    apply NDr.rd [0]
    · intro fH TH
      exact ⟨rfl, rfl⟩
    apply NDr.rd [0]
    · intro fH TH
      exact ⟨rfl, rfl⟩
    apply NDr.pure
    · refine NCall.call (k1) rfl rfl ?_
      exact ⟨rfl, rfl⟩
    apply NDr.rd [0]
    · intro fH TH
      exact ⟨rfl, rfl⟩
    apply NDr.rd [0]
    · intro fH TH
      exact ⟨rfl, rfl⟩
    apply NDr.pure
    · refine NCall.call (k2) rfl rfl ?_
      exact ⟨rfl, rfl⟩
    apply NDr.pure
    · exact ⟨rfl, rfl⟩
    apply NDr.pure
    · exact ⟨rfl, rfl⟩
    apply NDr.pure
    · exact ⟨rfl, rfl⟩
    apply NDr.pure
    · exact ⟨rfl, rfl⟩
    apply NDr.pure
    · exact ⟨rfl, rfl⟩
    refine NP.mk (by kernel_rfl) ?_
    exact NRet.mk [] rfl ⟨.refl _, rfl⟩
theorem since_walk (p : Past) (v : List Int) (hp : smP p) (hv : v.length ≤ 2 ^ 30) : ACalls Try.prog Nm.past_Since [pastA p, ints v] [] (if vwithin p.floor v = true then .tup [txnsA (leftB p.list v), i64 0] else .tup [txnsA [], i64 14]) [] := by
  refine ACalls_of tab (dr_snd tab mixed) Nm.past_Since_h rfl (by kernel_rfl) (Nat.le_of_ble_eq_true rfl) rfl ?_
  obtain ⟨h1, h2, h3⟩ := hp
  have k1 := vecWithin_walk p.floor v (by omega) (by omega)
  have k2 := copiedL_walk Nm.past_Since_1 v p.list (fun t => !hasT v t) h2 h3 (fun t _ => sinceF_walk v t (by omega))
  cases h : vwithin p.floor v with
  | true =>
    rw [h] at k1
    rw [if_pos rfl]
    refine NCall.call (k1) rfl rfl ?_
    refine NCall.subSame [1] (k2) ?_
    exact NRet.mk [] rfl ⟨.refl _, rfl⟩
  | false =>
    rw [h] at k1
    rw [if_neg (by simp)]
    refine NCall.call (k1) rfl rfl ?_
    exact NRet.mk [] rfl ⟨by repeat (first | exact LeA.refl _ | exact LeA.nils _ | refine LeA.agg ?_ | refine LeA.tup ?_ | exact LeAs.nil | refine LeAs.cons ?_ ?_), rfl⟩
theorem prune_walk (p : Past) (to : List Int) (hp : smP p) (ht : to.length ≤ 2 ^ 30) : ACalls Try.prog Nm.past_Prune [pastA p, ints to] [] (pastA (pruneP p to)) [] := by
  refine ACalls_of tab (dr_snd tab mixed) Nm.past_Prune_h rfl (by kernel_rfl) (Nat.le_of_ble_eq_true rfl) rfl ?_
  have k1 := end_walk p hp
  have hle := endP_len p
  obtain ⟨h1, h2, h3⟩ := hp
  have k2 := vecMeet_walk to (endP p) (by omega) (by omega)
  have hml := meet_len to (endP p)
  have k3 := vecJoin_walk p.floor (meet to (endP p)) (by omega) (by omega)
  have hjl := join_len p.floor (meet to (endP p))
  have k3 : ACalls Try.prog Nm.vec_Join [ints p.floor, ints (meet to (endP p))] [] (ints (pruneF p to)) [] := k3
  have k4 := copiedL_walk Nm.past_Prune_1 (pruneF p to) p.list (fun t => !hasT (pruneF p to) t) h2 h3 (fun t _ => pruneF_walk (pruneF p to) t (by unfold pruneF; omega))
  refine NP.mk (by kernel_rfl) ?_
  apply NDr.rd [0]
  · intro fH TH
    exact ⟨rfl, rfl⟩
  apply NDr.rd [0]
  · intro fH TH
    exact ⟨rfl, rfl⟩
  apply NDr.pure
  · exact ⟨rfl, rfl⟩
  apply NDr.rd [0]
  · intro fH TH
    exact ⟨rfl, rfl⟩
  apply NDr.pure
  · refine NCall.call (k1) rfl rfl ?_
    exact ⟨rfl, rfl⟩
  apply NDr.pure
  · refine NCall.call (k2) rfl rfl ?_
    exact ⟨rfl, rfl⟩
  apply NDr.pure
  · refine NCall.call (k3) rfl rfl ?_
    exact ⟨rfl, rfl⟩
  apply NDr.efw []
  · exact ⟨rfl, rfl⟩
  · repeat (first | exact True.intro | refine ⟨by first | exact rfl | exact True.intro, ?_⟩)
  apply NDr.efw [2]
  · exact ⟨rfl, rfl⟩
  · repeat (first | exact True.intro | refine ⟨by first | exact rfl | exact True.intro, ?_⟩)
  refine NP.mk (by kernel_rfl) ?_
  refine NP.mk (by kernel_rfl) ?_
  apply NDr.rd [2]
  · intro fH TH
    exact ⟨rfl, rfl⟩
  apply NDr.rd [0]
  · intro fH TH
    exact ⟨rfl, rfl⟩
  apply NDr.rd [0]
  · intro fH TH
    exact ⟨rfl, rfl⟩
  apply NDr.any
  · intro H'
    exact ⟨rfl, rfl⟩
  apply NDr.rd [2]
  · intro fH TH
    refine NCall.subSame [2] (k4) ?_
    exact ⟨rfl, rfl⟩
  apply NDr.pure
  · exact ⟨rfl, rfl⟩
  apply NDr.efw [1]
  · exact ⟨rfl, rfl⟩
  · repeat (first | exact True.intro | refine ⟨by first | exact rfl | exact True.intro, ?_⟩)
  refine NP.mk (by kernel_rfl) ?_
  exact NRet.mk [] rfl ⟨.refl _, rfl⟩
def keptP (p : Past) (t : Txn) : Past := if keepP p t = 0 then ⟨p.floor, p.list ++ [t]⟩ else ⟨[], []⟩
theorem keep_walk (p : Past) (t : Txn) (hp : smP p) (ht : smTxn t) (hl : p.list.length < 2 ^ 30) : ACalls Try.prog Nm.past_Keep [pastA p, txnA t] [] (.tup [pastA (keptP p t), i64 (keepP p t)]) [] := by
  refine ACalls_of tab (dr_snd tab mixed) Nm.past_Keep_h rfl (by kernel_rfl) (Nat.le_of_ble_eq_true rfl) rfl ?_
  have k1 := end_walk p hp
  have k2 := formed_walk t ht
  have hle := endP_len p
  have hpl := hp.1
  have hp2 := hp.2.1
  have k0 := dot_walk t
  have k3 : ACalls Try.prog Nm.vec_Has [ints (endP p), .agg [i64 t.node, i64 t.seq, i64 0]] [] (.bool (hasT (endP p) t)) [] := vecHas_walk (endP p) t.node t.seq 0 (by omega)
  have k4 := ready_walk (endP p) t (by omega) (by have := ht.2.1; omega) ht.1
  have k5 := cloneV_list p.floor (by omega)
  have k6 := cloneT_walk (p.list.map txnA) (by simp; omega)
  have hx : ∀ x ∈ p.list ++ [t], smTxn x := fun x hx => by
    rcases List.mem_append.1 hx with hx | hx
    · exact hp.2.2 x hx
    · rw [List.mem_singleton.1 hx]; exact ht
  have k7 := copied_walk Nm.past_all (p.list ++ [t]) (fun _ => true) (by simp; omega) hx (fun t _ => all_walk' t)
  rw [List.filter_eq_self.2 (by simp)] at k7
  have k7 : ACalls Try.prog Nm.past_copied [.list (.agg 4) (p.list.map txnA ++ [txnA t]), .fn Nm.past_all []] [] (txnsA (p.list ++ [t])) [] := by
    have e : AV.list (.agg 4) (p.list.map txnA ++ [txnA t]) = txnsA (p.list ++ [t]) := by simp [txnsA]
    rw [e]; exact k7
  cases h1 : formed t with
  | false =>
    rw [h1] at k2
    have e : keepP p t = 2 := by unfold keepP; simp [h1]
    rw [show keptP p t = ⟨[], []⟩ by unfold keptP; simp [e], e]
    refine NCall.call (k1) rfl rfl ?_
    refine NCall.call (k2) rfl rfl ?_
    exact NRet.mk [] rfl ⟨by repeat (first | exact LeA.refl _ | exact LeA.nils _ | refine LeA.agg ?_ | refine LeA.tup ?_ | exact LeAs.nil | refine LeAs.cons ?_ ?_), rfl⟩
  | true =>
    rw [h1] at k2
    cases h2 : hasT (endP p) t with
    | true =>
      rw [h2] at k3
      have e : keepP p t = 8 := by unfold keepP; simp [h1, h2]
      rw [show keptP p t = ⟨[], []⟩ by unfold keptP; simp [e], e]
      refine NCall.call (k1) rfl rfl ?_
      refine NCall.call (k2) rfl rfl ?_
      refine NCall.call (k0) rfl rfl ?_
      refine NCall.call (k3) rfl rfl ?_
      exact NRet.mk [] rfl ⟨by repeat (first | exact LeA.refl _ | exact LeA.nils _ | refine LeA.agg ?_ | refine LeA.tup ?_ | exact LeAs.nil | refine LeAs.cons ?_ ?_), rfl⟩
    | false =>
      rw [h2] at k3
      cases h3 : ready (endP p) t with
      | false =>
        rw [h3] at k4
        have e : keepP p t = 9 := by unfold keepP; simp [h1, h2, h3]
        rw [show keptP p t = ⟨[], []⟩ by unfold keptP; simp [e], e]
        refine NCall.call (k1) rfl rfl ?_
        refine NCall.call (k2) rfl rfl ?_
        refine NCall.call (k0) rfl rfl ?_
        refine NCall.call (k3) rfl rfl ?_
        refine NCall.call (k4) rfl rfl ?_
        exact NRet.mk [] rfl ⟨by repeat (first | exact LeA.refl _ | exact LeA.nils _ | refine LeA.agg ?_ | refine LeA.tup ?_ | exact LeAs.nil | refine LeAs.cons ?_ ?_), rfl⟩
      | true =>
        rw [h3] at k4
        by_cases h4 : p.list.length < 4096
        · have e : keepP p t = 0 := by unfold keepP; simp [h1, h2, h3, h4]
          rw [show keptP p t = ⟨p.floor, p.list ++ [t]⟩ by unfold keptP; simp [e], e]
          refine NCall.call (k1) rfl rfl ?_
          refine NCall.call (k2) rfl rfl ?_
          refine NCall.call (k0) rfl rfl ?_
          refine NCall.call (k3) rfl rfl ?_
          refine NCall.call (k4) rfl rfl ?_
          refine ND.no (by (simp only [List.length_map, List.length_append, List.length_replicate, List.length_cons, List.length_nil, List.length_take, List.length_drop]; omega)) ?_
          refine NP.mk (by kernel_rfl) ?_
          apply NDr.rd [0]
          · intro fH TH
            exact ⟨rfl, rfl⟩
          apply NDr.rd [0]
          · intro fH TH
            exact ⟨rfl, rfl⟩
          apply NDr.pure
          · refine NCall.call (k5) rfl rfl ?_
            exact ⟨rfl, rfl⟩
          apply NDr.rd [0]
          · intro fH TH
            exact ⟨rfl, rfl⟩
          apply NDr.rd [0]
          · intro fH TH
            exact ⟨rfl, rfl⟩
          apply NDr.efw []
          · refine NCall.atA (ACalls.frame (k6) rfl _) ?_
            exact ⟨rfl, rfl⟩
          · repeat (first | exact True.intro | refine ⟨by first | exact rfl | exact True.intro, ?_⟩)
          apply NDr.rd [1]
          · intro fH TH
            exact ⟨rfl, rfl⟩
          apply NDr.pure
          · exact ⟨rfl, rfl⟩
          apply NDr.efw [3]
          · refine NFz.own ?_
            refine NApp.endA rfl (by simp; omega) ?_
            exact ⟨rfl, rfl⟩
          · repeat (first | exact True.intro | refine ⟨by first | exact rfl | exact True.intro, ?_⟩)
          apply NDr.efw [4]
          · refine NCall.roA [4] ?_
            rw [(tl0 _)]
            refine NCall.call (k7) rfl rfl ?_
            exact ⟨rfl, rfl⟩
          · repeat (first | exact True.intro | refine ⟨by first | exact rfl | exact True.intro, ?_⟩)
          apply NDr.pure
          · exact ⟨rfl, rfl⟩
          apply NDr.efw [2]
          · exact ⟨rfl, rfl⟩
          · repeat (first | exact True.intro | refine ⟨by first | exact rfl | exact True.intro, ?_⟩)
          apply NDr.pure
          · exact ⟨rfl, rfl⟩
          refine NP.mk (by kernel_rfl) ?_
          exact NRet.mk [] rfl ⟨.refl _, rfl⟩
        · have e : keepP p t = 6 := by unfold keepP; simp [h1, h2, h3, h4]
          rw [show keptP p t = ⟨[], []⟩ by unfold keptP; simp [e], e]
          refine NCall.call (k1) rfl rfl ?_
          refine NCall.call (k2) rfl rfl ?_
          refine NCall.call (k0) rfl rfl ?_
          refine NCall.call (k3) rfl rfl ?_
          refine NCall.call (k4) rfl rfl ?_
          refine ND.yes (by (simp only [List.length_map, List.length_append, List.length_replicate, List.length_cons, List.length_nil, List.length_take, List.length_drop]; omega)) ?_
          exact NRet.mk [] rfl ⟨by repeat (first | exact LeA.refl _ | exact LeA.nils _ | refine LeA.agg ?_ | refine LeA.tup ?_ | exact LeAs.nil | refine LeAs.cons ?_ ?_), rfl⟩
end Go.Bv
