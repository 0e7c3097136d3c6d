/- Part of the lift: an abstract walk of the program's code, proved sound, and what it shows of this program. -/
import Derived.Test.YtkehoabgejdpgaaSvTake
import Derived.Test.YtkehoabgejdpgaaSvFormP
namespace Go.Bv
set_option linter.unusedSimpArgs false
set_option linter.unusedVariables false
set_option maxHeartbeats 4000000
open Go Go.Proofs

theorem take_eq_next {α : Type} {a b : List α} {i : Nat} (ht : a.take i = b.take i) (hia : i < a.length) (hib : i < b.length) (h : a[i] = b[i]) : a.take (i + 1) = b.take (i + 1) := by
  rw [List.take_succ_eq_append_getElem hia, List.take_succ_eq_append_getElem hib, ht, h]
theorem take_eq_end {α : Type} {a b : List α} (hl : a.length = b.length) (ht : a.take a.length = b.take a.length) : a = b := by
  rwa [List.take_length, hl, List.take_length] at ht
theorem txn_dec (a b : Txn) : decide (a = b) = (decide (a.node = b.node) && (decide (a.seq = b.seq) && (decide (a.deps = b.deps) && decide (a.effs = b.effs)))) := by
  rw [Bool.eq_iff_iff]; simp [Txn.ext_iff]
theorem eff_dec (a b : Eff) : decide (a = b) = (decide (a.at' = b.at') && (decide (a.key = b.key) && (decide (a.field = b.field) && (decide (a.kind = b.kind) && (decide (a.elem = b.elem) && (decide (a.n = b.n) && decide (a.drops = b.drops))))))) := by
  rw [Bool.eq_iff_iff]; simp [Eff.ext_iff]
theorem dot_dec (a b : Dot) : decide (a = b) = (decide (a.node = b.node) && (decide (a.seq = b.seq) && decide (a.at' = b.at'))) := by
  rw [Bool.eq_iff_iff]; simp [Dot.ext_iff]
theorem sameDots_walk (a b : List Dot) (ha : a.length ≤ 2 ^ 40) : ACalls Try.prog Nm.ref10_SameDots [dotsA a, dotsA b] [] (.bool (decide (a = b))) [] := by
  refine ACalls_of tab (dr_snd tab mixed) Nm.ref10_SameDots_h rfl (by kernel_rfl) (Nat.le_of_ble_eq_true rfl) rfl ?_
  by_cases hl : a.length = b.length
  · refine ND.yes (by (simp only [List.length_map, List.length_append, List.length_replicate, List.length_cons, List.length_nil, List.length_take, List.length_drop]; omega)) ?_
    refine NLoop.mk [] [0, 1, 5] (fun m vs H => ∃ i, i ≤ a.length ∧ m = a.length - i ∧ a.take i = b.take i ∧ H = [] ∧ vs = [dotsA a, dotsA b, i64 i]) rfl ?_ ?_
    · exact Canon.mk [] rfl ⟨a.length, 0, Nat.zero_le _, rfl, rfl, rfl, rfl⟩
    · rintro m vs H ⟨i, hi, rfl, ht, rfl, rfl⟩
      by_cases hil : i < a.length
      · have hib : i < b.length := by omega
        refine ND.yes (by (simp only [List.length_map, List.length_append, List.length_replicate, List.length_cons, List.length_nil, List.length_take, List.length_drop]; omega)) ?_
        refine NP.mk (by kernel_rfl) ?_
        apply NDr.pure
        · exact ⟨rfl, rfl⟩
        apply NDr.pure
        · exact ⟨rfl, rfl⟩
        apply NDr.pure
        · refine NP.mk (by omega) ?_
          refine NG.mapN (by omega) ?_
          exact ⟨rfl, rfl⟩
        apply NDr.pure
        · exact ⟨rfl, rfl⟩
        apply NDr.pure
        · exact ⟨rfl, rfl⟩
        apply NDr.pure
        · exact ⟨rfl, rfl⟩
        apply NDr.pure
        · refine NP.mk (by omega) ?_
          refine NG.mapN (by omega) ?_
          exact ⟨rfl, rfl⟩
        apply NDr.pure
        · exact ⟨rfl, rfl⟩
        apply NDr.pure
        · exact NB.det'
        refine NP.mk (by kernel_rfl) ?_
        refine NB.mk (fun hk3 => ?_) (fun hk3 => ?_)
        · refine NRet.boolE (b := false) ?_ (NRet.mk [] rfl ⟨.refl _, rfl⟩)
          grind
        refine NW.i64 (by omega) (by omega) ?_
        exact Canon.mk [] rfl ⟨a.length - (i + 1), by omega, i + 1, by omega, rfl, take_eq_next ht hil hib (by grind [Dot.ext_iff]), rfl, rfl⟩
      · have : i = a.length := by omega
        subst this
        rw [decide_eq_true (take_eq_end hl ht)]
        refine ND.no (by (simp only [List.length_map, List.length_append, List.length_replicate, List.length_cons, List.length_nil, List.length_take, List.length_drop]; omega)) ?_
        exact NRet.mk [] rfl ⟨.refl _, rfl⟩
  · rw [decide_eq_false fun e => hl (by rw [e])]
    refine ND.no (by (simp only [List.length_map, List.length_append, List.length_replicate, List.length_cons, List.length_nil, List.length_take, List.length_drop]; omega)) ?_
    exact NRet.mk [] rfl ⟨.refl _, rfl⟩
theorem same10_walk (a b : List Eff) (ha : a.length ≤ 2 ^ 40) (hx : ∀ e ∈ a, smEff e) : ACalls Try.prog Nm.ref10_Same [effsA a, effsA b] [] (.bool (decide (a = b))) [] := by
  refine ACalls_of tab (dr_snd2 tab mixed) Nm.ref10_Same_h rfl (by kernel_rfl) (Nat.le_of_ble_eq_true rfl) rfl ?_
  by_cases hl : a.length = b.length
  · refine ND.yes (by (simp only [List.length_map, List.length_append, List.length_replicate, List.length_cons, List.length_nil, List.length_take, List.length_drop]; omega)) ?_
    refine NLoop.mk [] [0, 1, 5] (fun m vs H => ∃ i, i ≤ a.length ∧ m = a.length - i ∧ a.take i = b.take i ∧ H = [] ∧ vs = [effsA a, effsA b, i64 i]) rfl ?_ ?_
    · exact Canon.mk [] rfl ⟨a.length, 0, Nat.zero_le _, rfl, rfl, rfl, rfl⟩
    · rintro m vs H ⟨i, hi, rfl, ht, rfl, rfl⟩
      by_cases hil : i < a.length
      · have hib : i < b.length := by omega
        have hd := sameDots_walk a[i].drops b[i].drops (hx _ (List.getElem_mem hil)).2.2.2
        refine ND.yes (by (simp only [List.length_map, List.length_append, List.length_replicate, List.length_cons, List.length_nil, List.length_take, List.length_drop]; omega)) ?_
        refine NP.mk (by kernel_rfl) ?_
        apply NDr.pure
        · exact ⟨rfl, rfl⟩
        apply NDr.pure
        · exact ⟨rfl, rfl⟩
        apply NDr.pure
        · refine NP.mk (by omega) ?_
          refine NG.mapN (by omega) ?_
          exact ⟨rfl, rfl⟩
        apply NDr.pure
        · exact ⟨rfl, rfl⟩
        apply NDr.pure
        · exact ⟨rfl, rfl⟩
        apply NDr.pure
        · exact ⟨rfl, rfl⟩
        apply NDr.pure
        · refine NP.mk (by omega) ?_
          refine NG.mapN (by omega) ?_
          exact ⟨rfl, rfl⟩
        apply NDr.pure
        · exact ⟨rfl, rfl⟩
        apply NDr.efw []
        · exact ⟨rfl, rfl⟩
        · repeat (first | exact True.intro | refine ⟨by first | exact rfl | exact True.intro, ?_⟩)
        apply NDr.efw []
        · exact ⟨rfl, rfl⟩
        · repeat (first | exact True.intro | refine ⟨by first | exact rfl | exact True.intro, ?_⟩)
        apply NDr.efw [0]
        · exact ⟨rfl, rfl⟩
        · repeat (first | exact True.intro | refine ⟨by first | exact rfl | exact True.intro, ?_⟩)
        apply NDr.efw [1]
        · exact ⟨rfl, rfl⟩
        · repeat (first | exact True.intro | refine ⟨by first | exact rfl | exact True.intro, ?_⟩)
        refine NP.mk (by kernel_rfl) ?_
        refine NB.dec (fun hk2 => ?_) (fun hk2 => ?_)
        rotate_left
        · refine NRet.boolE (b := false) ?_ (NRet.mk [] rfl ⟨.refl _, rfl⟩)
          grind
        refine NB.dec (fun hk3 => ?_) (fun hk3 => ?_)
        rotate_left
        · refine NRet.boolE (b := false) ?_ (NRet.mk [] rfl ⟨.refl _, rfl⟩)
          grind
        refine NB.dec (fun hk4 => ?_) (fun hk4 => ?_)
        rotate_left
        · refine NRet.boolE (b := false) ?_ (NRet.mk [] rfl ⟨.refl _, rfl⟩)
          grind
        refine NB.dec (fun hk5 => ?_) (fun hk5 => ?_)
        rotate_left
        · refine NRet.boolE (b := false) ?_ (NRet.mk [] rfl ⟨.refl _, rfl⟩)
          grind
        refine NB.dec (fun hk6 => ?_) (fun hk6 => ?_)
        rotate_left
        · refine NRet.boolE (b := false) ?_ (NRet.mk [] rfl ⟨.refl _, rfl⟩)
          grind
        refine NB.dec (fun hk7 => ?_) (fun hk7 => ?_)
        rotate_left
        · refine NRet.boolE (b := false) ?_ (NRet.mk [] rfl ⟨.refl _, rfl⟩)
          grind
        refine NCall.call (hd) rfl rfl ?_
        refine NB.mk (fun hk8 => ?_) (fun hk8 => ?_)
        rotate_left
        · refine NRet.boolE (b := false) ?_ (NRet.mk [] rfl ⟨.refl _, rfl⟩)
          grind
        refine NW.i64 (by omega) (by omega) ?_
        exact Canon.mk [] rfl ⟨a.length - (i + 1), by omega, i + 1, by omega, rfl, take_eq_next ht hil hib (by grind [Eff.ext_iff]), rfl, rfl⟩
      · have : i = a.length := by omega
        subst this
        rw [decide_eq_true (take_eq_end hl ht)]
        refine ND.no (by (simp only [List.length_map, List.length_append, List.length_replicate, List.length_cons, List.length_nil, List.length_take, List.length_drop]; omega)) ?_
        exact NRet.mk [] rfl ⟨.refl _, rfl⟩
  · rw [decide_eq_false fun e => hl (by rw [e])]
    refine ND.no (by (simp only [List.length_map, List.length_append, List.length_replicate, List.length_cons, List.length_nil, List.length_take, List.length_drop]; omega)) ?_
    exact NRet.mk [] rfl ⟨.refl _, rfl⟩
theorem same13_walk (a b : Txn) (ha : smTxn a) : ACalls Try.prog Nm.ref13_Same [txnA a, txnA b] [] (.bool (decide (a = b))) [] := by
  refine ACalls_of tab (dr_snd tab mixed) Nm.ref13_Same_h rfl (by kernel_rfl) (Nat.le_of_ble_eq_true rfl) rfl ?_
  obtain ⟨h1, h2, h3, h4⟩ := ha
  have hv := equal7_walk a.deps b.deps (by omega)
  have he := same10_walk a.effs b.effs (by omega) h4
  rw [txn_dec]
  refine NB.dec (fun hk1 => ?_) (fun hk1 => ?_)
  · refine NB.dec (fun hk2 => ?_) (fun hk2 => ?_)
    · refine NCall.call (hv) rfl rfl ?_
      refine NB.mk (fun hk3 => ?_) (fun hk3 => ?_)
      · refine NB.yes (by assumption) ?_
        refine NB.yes (by assumption) ?_
        refine NB.yes (by assumption) ?_
        refine NB.yes (by assumption) ?_
        refine NCall.call (he) rfl rfl ?_
        refine NB.yes (by assumption) ?_
        refine NRet.boolE ?_ (NRet.mk [] rfl ⟨.refl _, rfl⟩)
        (simp [*]; done)
      refine NB.no (by assumption) ?_
      refine NB.no (by assumption) ?_
      refine NB.no (by assumption) ?_
      refine NB.no (by assumption) ?_
      refine NB.no (by assumption) ?_
      refine NRet.boolE (b := false) ?_ (NRet.mk [] rfl ⟨.refl _, rfl⟩)
      (simp [*]; done)
    refine NRet.boolE (b := false) ?_ (NRet.mk [] rfl ⟨.refl _, rfl⟩)
    (simp [*]; done)
  refine NRet.boolE (b := false) ?_ (NRet.mk [] rfl ⟨.refl _, rfl⟩)
  (simp [*]; done)
theorem sameAll_walk (a b : List Txn) (ha : a.length ≤ 2 ^ 40) (hx : ∀ e ∈ a, smTxn e) : ACalls Try.prog Nm.ref13_SameAll [txnsA a, txnsA b] [] (.bool (decide (a = b))) [] := by
  refine ACalls_of tab (dr_snd tab mixed) Nm.ref13_SameAll_h rfl (by kernel_rfl) (Nat.le_of_ble_eq_true rfl) rfl ?_
  by_cases hl : a.length = b.length
  · refine ND.yes (by (simp only [List.length_map, List.length_append, List.length_replicate, List.length_cons, List.length_nil, List.length_take, List.length_drop]; omega)) ?_
    refine NLoop.mk [] [0, 1, 5] (fun m vs H => ∃ i, i ≤ a.length ∧ m = a.length - i ∧ a.take i = b.take i ∧ H = [] ∧ vs = [txnsA a, txnsA b, i64 i]) rfl ?_ ?_
    · exact Canon.mk [] rfl ⟨a.length, 0, Nat.zero_le _, rfl, rfl, rfl, rfl⟩
    · rintro m vs H ⟨i, hi, rfl, ht, rfl, rfl⟩
      by_cases hil : i < a.length
      · have hib : i < b.length := by omega
        have hd := same13_walk a[i] b[i] (hx _ (List.getElem_mem hil))
        by_cases he : a[i] = b[i]
        · rw [decide_eq_true he] at hd
          refine ND.yes (by (simp only [List.length_map, List.length_append, List.length_replicate, List.length_cons, List.length_nil, List.length_take, List.length_drop]; omega)) ?_
          refine NP.mk (by kernel_rfl) ?_
          apply NDr.pure
          · exact ⟨rfl, rfl⟩
          apply NDr.pure
          · exact ⟨rfl, rfl⟩
          apply NDr.pure
          · refine NP.mk (by omega) ?_
            refine NG.mapN (by omega) ?_
            exact ⟨rfl, rfl⟩
          apply NDr.pure
          · exact ⟨rfl, rfl⟩
          apply NDr.pure
          · exact ⟨rfl, rfl⟩
          apply NDr.pure
          · exact ⟨rfl, rfl⟩
          apply NDr.pure
          · refine NP.mk (by omega) ?_
            refine NG.mapN (by omega) ?_
            exact ⟨rfl, rfl⟩
          apply NDr.pure
          · exact ⟨rfl, rfl⟩
          apply NDr.pure
          · refine NCall.call (hd) rfl rfl ?_
            exact ⟨rfl, rfl⟩
          apply NDr.pure
          · exact ⟨rfl, rfl⟩
          refine NP.mk (by kernel_rfl) ?_
          refine NW.i64 (by omega) (by omega) ?_
          exact Canon.mk [] rfl ⟨a.length - (i + 1), by omega, i + 1, by omega, rfl, take_eq_next ht hil hib he, rfl, rfl⟩
        · rw [decide_eq_false he] at hd
          rw [decide_eq_false fun e => he (by simp only [e])]
          refine ND.yes (by (simp only [List.length_map, List.length_append, List.length_replicate, List.length_cons, List.length_nil, List.length_take, List.length_drop]; omega)) ?_
          refine NP.mk (by kernel_rfl) ?_
          apply NDr.pure
          · exact ⟨rfl, rfl⟩
          apply NDr.pure
          · exact ⟨rfl, rfl⟩
          apply NDr.pure
          · refine NP.mk (by omega) ?_
            refine NG.mapN (by omega) ?_
            exact ⟨rfl, rfl⟩
          apply NDr.pure
          · exact ⟨rfl, rfl⟩
          apply NDr.pure
          · exact ⟨rfl, rfl⟩
          apply NDr.pure
          · exact ⟨rfl, rfl⟩
          apply NDr.pure
          · refine NP.mk (by omega) ?_
            refine NG.mapN (by omega) ?_
            exact ⟨rfl, rfl⟩
          apply NDr.pure
          · exact ⟨rfl, rfl⟩
          apply NDr.pure
          · refine NCall.call (hd) rfl rfl ?_
            exact ⟨rfl, rfl⟩
          apply NDr.pure
          · exact ⟨rfl, rfl⟩
          refine NP.mk (by kernel_rfl) ?_
          exact NRet.mk [] rfl ⟨.refl _, rfl⟩
      · have : i = a.length := by omega
        subst this
        rw [decide_eq_true (take_eq_end hl ht)]
        refine ND.no (by (simp only [List.length_map, List.length_append, List.length_replicate, List.length_cons, List.length_nil, List.length_take, List.length_drop]; omega)) ?_
        exact NRet.mk [] rfl ⟨.refl _, rfl⟩
  · rw [decide_eq_false fun e => hl (by rw [e])]
    refine ND.no (by (simp only [List.length_map, List.length_append, List.length_replicate, List.length_cons, List.length_nil, List.length_take, List.length_drop]; omega)) ?_
    exact NRet.mk [] rfl ⟨.refl _, rfl⟩
theorem sameV_dec {a : Txn} (ha : smTxn a) : ACalls Try.prog Nm.ref13_Same [txnA a, txnA a] [] (.bool true) [] := by
  have := same13_walk a a ha
  rwa [decide_eq_true rfl] at this
theorem copy10_walk (l : List Eff) (hl : l.length ≤ 2 ^ 30) (hx : ∀ e ∈ l, smEff e) : ACalls Try.prog Nm.ref10_Copy [effsA l] [] (effsA l) [] := by
  refine ACalls_of tab (dr_snd tab mixed) Nm.ref10_Copy_h rfl (by kernel_rfl) (Nat.le_of_ble_eq_true rfl) rfl ?_
  refine NLoop.mk [(3, .agg 7)] [0, 3, 4] (fun m vs H => ∃ i, i ≤ l.length ∧ m = l.length - i ∧ H = [.row .vrow (.agg 7) ((l.take i).map effA)] ∧ vs = [effsA l, .own 0 0 ((l.take i).map effA).length, i64 i]) rfl ?_ ?_
  · exact Canon.mk [0] rfl ⟨l.length, 0, Nat.zero_le _, rfl, rfl, rfl⟩
  · rintro m vs H ⟨i, hi, rfl, rfl, rfl⟩
    by_cases hil : i < l.length
    · have hs := snocMap effA l hil
      obtain ⟨x1, x2, x3, x4⟩ := hx _ (List.getElem_mem hil)
      refine ND.yes (by (simp only [List.length_map, List.length_append, List.length_replicate, List.length_cons, List.length_nil, List.length_take, List.length_drop]; omega)) ?_
      refine NP.mk (by omega) ?_
      refine NG.mapN (by omega) ?_
      refine NFz.own ?_
      refine NApp.roA rfl (by simp; omega) ?_
      refine NFz.own ?_
      refine NApp.endA rfl (by simp; omega) ?_
      refine NW.i64 (by omega) (by omega) ?_
      exact Canon.mk [3] rfl ⟨l.length - (i + 1), by omega, i + 1, by omega, rfl, by rw [hs]; rfl, by rw [hs]; rfl⟩
    · have : i = l.length := by omega
      subst this
      rw [List.take_length]
      refine ND.no (by (simp only [List.length_map, List.length_append, List.length_replicate, List.length_cons, List.length_nil, List.length_take, List.length_drop]; omega)) ?_
      exact NRet.mk [] rfl (NFrz.mk (l.map effA) (by simp) (by rw [List.drop_zero, List.take_of_length_le (by simp)]) ⟨.refl _, rfl⟩)
theorem copy13_own (l : List Txn) (hl : l.length ≤ 2 ^ 30) (hx : ∀ t ∈ l, smTxn t) : ACalls Try.prog Nm.ref13_Copy [txnsA l] [] (.own 0 0 l.length) [.row .vrow (.agg 4) (l.map txnA)] := by
  refine ACalls_of tab (dr_snd tab mixed) Nm.ref13_Copy_h rfl (by kernel_rfl) (Nat.le_of_ble_eq_true rfl) rfl ?_
  refine NLoop.mk [(3, .agg 4)] [0, 3, 4] (fun m vs H => ∃ i, i ≤ l.length ∧ m = l.length - i ∧ H = [.row .vrow (.agg 4) ((l.take i).map txnA)] ∧ vs = [txnsA l, .own 0 0 ((l.take i).map txnA).length, i64 i]) rfl ?_ ?_
  · exact Canon.mk [0] rfl ⟨l.length, 0, Nat.zero_le _, rfl, rfl, rfl⟩
  · rintro m vs H ⟨i, hi, rfl, rfl, rfl⟩
    by_cases hil : i < l.length
    · have hs := snocMap txnA l hil
      obtain ⟨x1, x2, x3, x4⟩ := hx _ (List.getElem_mem hil)
      have h1 := copy7_walk l[i].deps (by omega)
      have h2 := copy10_walk l[i].effs (by omega) x4
      refine ND.yes (by (simp only [List.length_map, List.length_append, List.length_replicate, List.length_cons, List.length_nil, List.length_take, List.length_drop]; omega)) ?_
      refine NP.mk (by omega) ?_
      refine NG.mapN (by omega) ?_
      refine NCall.call (h1) rfl rfl ?_
      refine NCall.call (h2) rfl rfl ?_
      refine NFz.own ?_
      refine NApp.endA rfl (by simp; omega) ?_
      refine NW.i64 (by omega) (by omega) ?_
      exact Canon.mk [2] rfl ⟨l.length - (i + 1), by omega, i + 1, by omega, rfl, by rw [hs]; rfl, by rw [hs]; rfl⟩
    · have : i = l.length := by omega
      subst this
      rw [List.take_length]
      refine ND.no (by (simp only [List.length_map, List.length_append, List.length_replicate, List.length_cons, List.length_nil, List.length_take, List.length_drop]; omega)) ?_
      exact NRet.mk [0] rfl ⟨by rw [List.length_map]; exact .refl _, rfl⟩
theorem copy13_walk (l : List Txn) (hl : l.length ≤ 2 ^ 30) (hx : ∀ t ∈ l, smTxn t) : ACalls Try.prog Nm.ref13_Copy [txnsA l] [] (txnsA l) [] := (copy13_own l hl hx).drop (dropL (by simp))
def shortE (e : Eff) : Bool := decide (e.key.length ≤ 300 ∧ e.field.length ≤ 300 ∧ e.elem.length ≤ 300 ∧ e.drops.length ≤ 70)
def shortEs (l : List Eff) : Bool := decide (l.length ≤ 20) && l.all shortE
def shortT (l : List Txn) : Bool := decide (l.length ≤ 24) && l.all fun t => decide (t.deps.length ≤ 60) && shortEs t.effs
theorem short10_walk (l : List Eff) (hl : l.length ≤ 2 ^ 47) (hx : ∀ e ∈ l, okEff e) : ACalls Try.prog Nm.ref10_Short [effsA l] [] (.bool (shortEs l)) [] := by
  refine ACalls_of tab (dr_snd tab mixed) Nm.ref10_Short_h rfl (by kernel_rfl) (Nat.le_of_ble_eq_true rfl) rfl ?_
  unfold shortEs
  by_cases h : l.length ≤ 20
  · rw [decide_eq_true h, Bool.true_and]
    refine ND.no (by (simp only [List.length_map, List.length_append, List.length_replicate, List.length_cons, List.length_nil, List.length_take, List.length_drop]; omega)) ?_
    refine NLoop.mk [] [0, 3] (fun m vs H => ∃ i, i ≤ l.length ∧ m = l.length - i ∧ (∀ x ∈ l.take i, shortE x = true) ∧ H = [] ∧ vs = [effsA l, i64 i]) rfl ?_ ?_
    · exact Canon.mk [] rfl ⟨l.length, 0, Nat.zero_le _, rfl, by simp, rfl, rfl⟩
    · rintro m vs H ⟨i, hi, rfl, ht, rfl, rfl⟩
      by_cases hil : i < l.length
      · obtain ⟨f1, f2⟩ := all_step hil ht
        obtain ⟨_, x1, x2, _, x3, _, x4, _⟩ := hx _ (List.getElem_mem hil)
        have x1 := reach_lt x1
        have x2 := reach_lt x2
        have x3 := reach_lt x3
        have x4 := reach_lt x4
        cases hp : shortE l[i] with
        | true =>
          have hp' := hp
          unfold shortE at hp'
          simp only [decide_eq_true_eq] at hp'
          refine ND.yes (by (simp only [List.length_map, List.length_append, List.length_replicate, List.length_cons, List.length_nil, List.length_take, List.length_drop]; omega)) ?_
          refine NP.mk (by omega) ?_
          refine NG.mapN (by omega) ?_
          refine ND.no (by omega) ?_
          refine NP.mk (by omega) ?_
          refine NG.mapN (by omega) ?_
          refine ND.no (by omega) ?_
          refine NP.mk (by omega) ?_
          refine NG.mapN (by omega) ?_
          refine ND.no (by omega) ?_
          refine NP.mk (by omega) ?_
          refine NG.mapN (by omega) ?_
          refine ND.no (by (simp only [List.length_map, List.length_append, List.length_replicate, List.length_cons, List.length_nil, List.length_take, List.length_drop]; omega)) ?_
          refine NW.i64 (by omega) (by omega) ?_
          exact Canon.mk [] rfl ⟨l.length - (i + 1), by omega, i + 1, by omega, rfl, f2 hp, rfl, rfl⟩
        | false =>
          rw [f1 hp]
          have hp' := hp
          unfold shortE at hp'
          simp only [decide_eq_false_iff_not] at hp'
          refine ND.yes (by (simp only [List.length_map, List.length_append, List.length_replicate, List.length_cons, List.length_nil, List.length_take, List.length_drop]; omega)) ?_
          refine NP.mk (by omega) ?_
          refine NG.mapN (by omega) ?_
          refine NB.dec (fun hk2 => ?_) (fun hk2 => ?_)
          · exact NRet.mk [] rfl ⟨.refl _, rfl⟩
          refine NP.mk (by omega) ?_
          refine NG.mapN (by omega) ?_
          refine NB.dec (fun hk3 => ?_) (fun hk3 => ?_)
          · exact NRet.mk [] rfl ⟨.refl _, rfl⟩
          refine NP.mk (by omega) ?_
          refine NG.mapN (by omega) ?_
          refine NB.dec (fun hk4 => ?_) (fun hk4 => ?_)
          · exact NRet.mk [] rfl ⟨.refl _, rfl⟩
          refine NP.mk (by omega) ?_
          refine NG.mapN (by omega) ?_
          refine ND.yes (by (simp only [List.length_map, List.length_append, List.length_replicate, List.length_cons, List.length_nil, List.length_take, List.length_drop]; omega)) ?_
          exact NRet.mk [] rfl ⟨.refl _, rfl⟩
      · have : i = l.length := by omega
        subst this
        rw [all_end ht]
        refine ND.no (by (simp only [List.length_map, List.length_append, List.length_replicate, List.length_cons, List.length_nil, List.length_take, List.length_drop]; omega)) ?_
        exact NRet.mk [] rfl ⟨.refl _, rfl⟩
  · rw [decide_eq_false h, Bool.false_and]
    refine ND.yes (by (simp only [List.length_map, List.length_append, List.length_replicate, List.length_cons, List.length_nil, List.length_take, List.length_drop]; omega)) ?_
    exact NRet.mk [] rfl ⟨.refl _, rfl⟩
theorem short13_walk (l : List Txn) (hl : l.length ≤ 2 ^ 47) (hx : ∀ e ∈ l, okTxn e) : ACalls Try.prog Nm.ref13_Short [txnsA l] [] (.bool (shortT l)) [] := by
  refine ACalls_of tab (dr_snd tab mixed) Nm.ref13_Short_h rfl (by kernel_rfl) (Nat.le_of_ble_eq_true rfl) rfl ?_
  unfold shortT
  by_cases h : l.length ≤ 24
  · rw [decide_eq_true h, Bool.true_and]
    refine ND.no (by (simp only [List.length_map, List.length_append, List.length_replicate, List.length_cons, List.length_nil, List.length_take, List.length_drop]; omega)) ?_
    refine NLoop.mk [] [0, 3] (fun m vs H => ∃ i, i ≤ l.length ∧ m = l.length - i ∧ (∀ x ∈ l.take i, (decide (x.deps.length ≤ 60) && shortEs x.effs) = true) ∧ H = [] ∧ vs = [txnsA l, i64 i]) rfl ?_ ?_
    · exact Canon.mk [] rfl ⟨l.length, 0, Nat.zero_le _, rfl, by simp, rfl, rfl⟩
    · rintro m vs H ⟨i, hi, rfl, ht, rfl, rfl⟩
      by_cases hil : i < l.length
      · obtain ⟨f1, f2⟩ := all_step hil ht
        obtain ⟨_, _, ⟨x1, _⟩, ⟨x2, x3⟩⟩ := hx _ (List.getElem_mem hil)
        have x1 := reach_lt x1
        have x2 := reach_lt x2
        have hs := short10_walk l[i].effs (by omega) x3
        by_cases hd : l[i].deps.length ≤ 60
        · cases hp : shortEs l[i].effs with
          | true =>
            rw [hp] at hs
            refine ND.yes (by (simp only [List.length_map, List.length_append, List.length_replicate, List.length_cons, List.length_nil, List.length_take, List.length_drop]; omega)) ?_
            refine NP.mk (by omega) ?_
            refine NG.mapN (by omega) ?_
            refine ND.no (by (simp only [List.length_map, List.length_append, List.length_replicate, List.length_cons, List.length_nil, List.length_take, List.length_drop]; omega)) ?_
            refine NP.mk (by omega) ?_
            refine NG.mapN (by omega) ?_
            refine NCall.call (hs) rfl rfl ?_
            refine NW.i64 (by omega) (by omega) ?_
            exact Canon.mk [] rfl ⟨l.length - (i + 1), by omega, i + 1, by omega, rfl, f2 (by rw [decide_eq_true hd, hp]; rfl), rfl, rfl⟩
          | false =>
            rw [hp] at hs
            rw [f1 (by rw [hp, Bool.and_false])]
            refine ND.yes (by (simp only [List.length_map, List.length_append, List.length_replicate, List.length_cons, List.length_nil, List.length_take, List.length_drop]; omega)) ?_
            refine NP.mk (by omega) ?_
            refine NG.mapN (by omega) ?_
            refine ND.no (by (simp only [List.length_map, List.length_append, List.length_replicate, List.length_cons, List.length_nil, List.length_take, List.length_drop]; omega)) ?_
            refine NP.mk (by omega) ?_
            refine NG.mapN (by omega) ?_
            refine NCall.call (hs) rfl rfl ?_
            exact NRet.mk [] rfl ⟨.refl _, rfl⟩
        · rw [f1 (by rw [decide_eq_false hd]; rfl)]
          refine ND.yes (by (simp only [List.length_map, List.length_append, List.length_replicate, List.length_cons, List.length_nil, List.length_take, List.length_drop]; omega)) ?_
          refine NP.mk (by omega) ?_
          refine NG.mapN (by omega) ?_
          refine ND.yes (by (simp only [List.length_map, List.length_append, List.length_replicate, List.length_cons, List.length_nil, List.length_take, List.length_drop]; omega)) ?_
          exact NRet.mk [] rfl ⟨.refl _, rfl⟩
      · have : i = l.length := by omega
        subst this
        rw [all_end ht]
        refine ND.no (by (simp only [List.length_map, List.length_append, List.length_replicate, List.length_cons, List.length_nil, List.length_take, List.length_drop]; omega)) ?_
        exact NRet.mk [] rfl ⟨.refl _, rfl⟩
  · rw [decide_eq_false h, Bool.false_and]
    refine ND.yes (by (simp only [List.length_map, List.length_append, List.length_replicate, List.length_cons, List.length_nil, List.length_take, List.length_drop]; omega)) ?_
    exact NRet.mk [] rfl ⟨.refl _, rfl⟩
end Go.Bv
