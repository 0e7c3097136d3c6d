/- Part of the lift: an abstract walk of the program's code, proved sound, and what it shows of this program. -/
import Derived.Test.YtkehoabgejdpgaaSvForm
namespace Go.Bv
set_option linter.unusedSimpArgs false
set_option linter.unusedVariables false
set_option maxHeartbeats 4000000
open Go Go.Proofs

theorem equalV_walk (a b : List Int) (ha : a.length ≤ 2 ^ 40) : ACalls Try.prog Nm.slices_Equal_api_Vec_int [ints a, ints b] [] (.bool (decide (a = b))) [] := by
  refine ACalls_of tab (dr_snd tab mixed) Nm.slices_Equal_api_Vec_int_h rfl (by kernel_rfl) (Nat.le_of_ble_eq_true rfl) rfl ?_
  by_cases hl : a.length = b.length
  · refine ND.yes (by (simp only [List.length_map, List.length_append, List.length_replicate, List.length_cons, List.length_nil, List.length_take, List.length_drop]; omega)) ?_
    refine NLoop.mk [] [0, 1, 11, 12, 13] (fun m vs H => ∃ i, i ≤ a.length ∧ m = a.length - i ∧ a.take i = b.take i ∧ H = [] ∧ vs = [ints a, ints b, ints a, i64 a.length, i64 i]) rfl ?_ ?_
    · exact Canon.mk [] rfl ⟨a.length, 0, Nat.zero_le _, rfl, rfl, rfl, by simp [ints, i64]⟩
    · rintro m vs H ⟨i, hi, rfl, ht, rfl, rfl⟩
      by_cases hil : i < a.length
      · have hib : i < b.length := by omega
        by_cases he : a[i] = b[i]
        · refine ND.yes (by omega) ?_
          refine NP.mk (by kernel_rfl) ?_
          apply NDr.pure
          · exact ⟨rfl, rfl⟩
          apply NDr.pure
          · exact ⟨rfl, rfl⟩
          apply NDr.pure
          · refine NP.mk (by omega) ?_
            refine NG.mapN (by omega) ?_
            exact ⟨rfl, rfl⟩
          apply NDr.pure
          · exact ⟨rfl, rfl⟩
          apply NDr.pure
          · exact ⟨rfl, rfl⟩
          apply NDr.pure
          · exact ⟨rfl, rfl⟩
          apply NDr.pure
          · refine NP.mk (by omega) ?_
            refine NG.mapN (by omega) ?_
            exact ⟨rfl, rfl⟩
          apply NDr.pure
          · exact ⟨rfl, rfl⟩
          apply NDr.pure
          · refine ND.yes (by omega) ?_
            exact ⟨rfl, rfl⟩
          refine NP.mk (by kernel_rfl) ?_
          refine NW.i64 (by omega) (by omega) ?_
          exact Canon.mk [] rfl ⟨a.length - (i + 1), by omega, i + 1, by omega, rfl, take_eq_next ht hil hib he, rfl, rfl⟩
        · rw [decide_eq_false fun e => he (by simp only [e])]
          refine ND.yes (by omega) ?_
          refine NP.mk (by kernel_rfl) ?_
          apply NDr.pure
          · exact ⟨rfl, rfl⟩
          apply NDr.pure
          · exact ⟨rfl, rfl⟩
          apply NDr.pure
          · refine NP.mk (by omega) ?_
            refine NG.mapN (by omega) ?_
            exact ⟨rfl, rfl⟩
          apply NDr.pure
          · exact ⟨rfl, rfl⟩
          apply NDr.pure
          · exact ⟨rfl, rfl⟩
          apply NDr.pure
          · exact ⟨rfl, rfl⟩
          apply NDr.pure
          · refine NP.mk (by omega) ?_
            refine NG.mapN (by omega) ?_
            exact ⟨rfl, rfl⟩
          apply NDr.pure
          · exact ⟨rfl, rfl⟩
          apply NDr.pure
          · refine ND.no (by omega) ?_
            exact ⟨rfl, rfl⟩
          refine NP.mk (by kernel_rfl) ?_
          exact NRet.mk [] rfl ⟨.refl _, rfl⟩
      · have : i = a.length := by omega
        subst this
        rw [decide_eq_true (take_eq_end hl ht)]
        refine ND.no (by omega) ?_
        exact NRet.mk [] rfl ⟨.refl _, rfl⟩
  · rw [decide_eq_false fun e => hl (by rw [e])]
    refine ND.no (by (simp only [List.length_map, List.length_append, List.length_replicate, List.length_cons, List.length_nil, List.length_take, List.length_drop]; omega)) ?_
    exact NRet.mk [] rfl ⟨.refl _, rfl⟩
theorem formF_walk (n : Int) : ACalls Try.prog Nm.txn_Formed_1 [i64 n] [] (.bool (decide (1073741824 < n))) [] := by
  refine ACalls_of tab (dr_snd tab mixed) Nm.txn_Formed_1_h rfl (by kernel_rfl) (Nat.le_of_ble_eq_true rfl) rfl ?_
  refine NB.dec (fun hk1 => ?_) (fun hk1 => ?_)
  · refine NRet.boolE (b := true) ?_ (NRet.mk [] rfl ⟨.refl _, rfl⟩)
    (simp only [decide_eq_true_eq, decide_eq_false_iff_not, eq_comm (a := true), eq_comm (a := false)]; omega)
  refine NRet.boolE (b := false) ?_ (NRet.mk [] rfl ⟨.refl _, rfl⟩)
  (simp only [decide_eq_true_eq, decide_eq_false_iff_not, eq_comm (a := true), eq_comm (a := false)]; omega)
theorem indexV_walk (g : Nat) (l : List Int) (p : Int → Bool) (hl : l.length ≤ 2 ^ 40) (hg : ∀ d ∈ l, ACalls Try.prog g [i64 d] [] (.bool (p d)) []) :
    ACalls Try.prog Nm.slices_IndexFunc_api_Vec_int [ints l, .fn g []] [] (i64 (ixI p l)) [] := by
  refine ACalls_of tab (dr_snd tab mixed) Nm.slices_IndexFunc_api_Vec_int_h rfl (by kernel_rfl) (Nat.le_of_ble_eq_true rfl) rfl ?_
  refine NLoop.mk [] [0, 1, 6, 7, 8] (fun m vs H => ∃ i, i ≤ l.length ∧ m = l.length - i ∧ (∀ x ∈ l.take i, p x = false) ∧ H = [] ∧ vs = [ints l, .fn g [], ints l, i64 l.length, i64 i]) rfl ?_ ?_
  · exact Canon.mk [] rfl ⟨l.length, 0, Nat.zero_le _, rfl, by simp, rfl, by simp [ints, i64]⟩
  · rintro m vs H ⟨i, hi, rfl, ht, rfl, rfl⟩
    by_cases hil : i < l.length
    · have hc := hg _ (List.getElem_mem hil)
      obtain ⟨f1, f2⟩ := find_step hil ht
      cases hp : p l[i] with
      | true =>
        rw [hp] at hc
        rw [f1 hp]
        refine ND.yes (by omega) ?_
        refine NP.mk (by omega) ?_
        refine NG.mapN (by omega) ?_
        refine NCall.call (hc) rfl rfl ?_
        exact NRet.mk [] rfl ⟨.refl _, rfl⟩
      | false =>
        rw [hp] at hc
        refine ND.yes (by omega) ?_
        refine NP.mk (by omega) ?_
        refine NG.mapN (by omega) ?_
        refine NCall.call (hc) rfl rfl ?_
        refine NW.i64 (by omega) (by omega) ?_
        exact Canon.mk [] rfl ⟨l.length - (i + 1), by omega, i + 1, by omega, rfl, f2 hp, rfl, rfl⟩
    · have : i = l.length := by omega
      subst this
      rw [List.take_length] at ht
      rw [find_none ht]
      refine ND.no (by omega) ?_
      exact NRet.mk [] rfl ⟨.refl _, rfl⟩
theorem containsV_walk (g : Nat) (l : List Int) (p : Int → Bool) (hl : l.length ≤ 2 ^ 40) (hg : ∀ d ∈ l, ACalls Try.prog g [i64 d] [] (.bool (p d)) []) :
    ACalls Try.prog Nm.slices_ContainsFunc_api_Vec_int [ints l, .fn g []] [] (.bool (l.any p)) [] := by
  have hi := indexV_walk g l p hl hg
  refine ACalls_of tab (dr_snd tab mixed) Nm.slices_ContainsFunc_api_Vec_int_h rfl (by kernel_rfl) (Nat.le_of_ble_eq_true rfl) rfl ?_
  rw [ixI_any]
  by_cases h : 0 ≤ ixI p l
  · rw [decide_eq_true h]
    refine NCall.call (hi) rfl rfl ?_
    refine ND.yes (by omega) ?_
    exact NRet.mk [] rfl ⟨.refl _, rfl⟩
  · rw [decide_eq_false h]
    refine NCall.call (hi) rfl rfl ?_
    refine ND.no (by omega) ?_
    exact NRet.mk [] rfl ⟨.refl _, rfl⟩
theorem all_le (v : List Int) : (v.all fun n => decide (n ≤ 1073741824)) = !v.any fun n => decide (1073741824 < n) := by
  rw [List.not_any_eq_all_not]
  congr 1; funext n
  by_cases h : n ≤ 1073741824
  · simp [h, Int.not_lt.2 h]
  · simp [h, Int.not_le.1 h]
theorem vatI_nonneg (v : List Int) (n : Int) : 0 ≤ vatI v n := by
  unfold vatI; split
  · exact Int.le_refl _
  · exact vat_nonneg _ _
theorem vat_le {v : List Int} {m : Int} (h : ∀ x ∈ v, x ≤ m) (hm : 0 ≤ m) (i : Nat) : vat v i ≤ m := by
  rcases Nat.lt_or_ge i v.length with hi | hi
  · rw [vat_in hi]; have := h _ (List.getElem_mem hi); omega
  · rw [vat_out hi]; exact hm
theorem vatI_le {v : List Int} {m : Int} (h : ∀ x ∈ v, x ≤ m) (hm : 0 ≤ m) (n : Int) : vatI v n ≤ m := by
  unfold vatI; split
  · exact hm
  · exact vat_le h hm _
theorem formed_walk (t : Txn) (ht : smTxn t) : ACalls Try.prog Nm.txn_Formed [txnA t] [] (.bool (formed t)) [] := by
  refine ACalls_of tab (dr_snd tab mixed) Nm.txn_Formed_h rfl (by kernel_rfl) (Nat.le_of_ble_eq_true rfl) rfl ?_
  obtain ⟨hs, h1, h2, h3⟩ := ht
  have k1 := vecTrim_walk t.deps (by omega)
  have k2 := equalV_walk (trim t.deps) t.deps (Nat.le_trans (trim_len _) (by omega))
  have k3 := vecAt_walk t.deps t.node (by omega)
  have k4 := containsV_walk Nm.txn_Formed_1 t.deps (fun n => decide (1073741824 < n)) (by omega) (fun n _ => formF_walk n)
  have k5 := right_walk t.node t.seq t.effs (by omega) h3
  have k6 := effHeard_walk t.effs t.node t.seq t.deps (by omega) h3 (by omega)
  obtain ⟨hs1, hs2⟩ := hs
  refine NB.dec (fun hk1 => ?_) (fun hk1 => ?_)
  · refine NRet.boolE (b := false) ?_ (NRet.mk [] rfl ⟨.refl _, rfl⟩)
    grind [formed, vecOk, all_le]
  refine NB.dec (fun hk2 => ?_) (fun hk2 => ?_)
  · refine NRet.boolE (b := false) ?_ (NRet.mk [] rfl ⟨.refl _, rfl⟩)
    grind [formed, vecOk, all_le]
  refine NB.dec (fun hk3 => ?_) (fun hk3 => ?_)
  · refine NRet.boolE (b := false) ?_ (NRet.mk [] rfl ⟨.refl _, rfl⟩)
    grind [formed, vecOk, all_le]
  refine NB.dec (fun hk4 => ?_) (fun hk4 => ?_)
  · refine NRet.boolE (b := false) ?_ (NRet.mk [] rfl ⟨.refl _, rfl⟩)
    grind [formed, vecOk, all_le]
  refine NB.dec (fun hk5 => ?_) (fun hk5 => ?_)
  · refine NRet.boolE (b := false) ?_ (NRet.mk [] rfl ⟨.refl _, rfl⟩)
    grind [formed, vecOk, all_le]
  refine NB.dec (fun hk6 => ?_) (fun hk6 => ?_)
  · refine NRet.boolE (b := false) ?_ (NRet.mk [] rfl ⟨.refl _, rfl⟩)
    grind [formed, vecOk, all_le]
  refine NP.mk (by kernel_rfl) ?_
  apply NDr.rd [0]
  · intro fH TH
    exact ⟨rfl, rfl⟩
  apply NDr.rd [0]
  · intro fH TH
    exact ⟨rfl, rfl⟩
  apply NDr.pure
  · refine NCall.call (k1) rfl rfl ?_
    exact ⟨rfl, rfl⟩
  apply NDr.rd [0]
  · intro fH TH
    exact ⟨rfl, rfl⟩
  apply NDr.rd [0]
  · intro fH TH
    exact ⟨rfl, rfl⟩
  apply NDr.pure
  · refine NCall.call (k2) rfl rfl ?_
    exact ⟨rfl, rfl⟩
  apply NDr.pure
  · exact NB.det0'
  apply NDr.pure
  · exact ⟨rfl, rfl⟩
  refine NB.mk (fun hk7 => ?_) (fun hk7 => ?_)
  · refine NB.yes (by assumption) ?_
    refine NB.yes (by assumption) ?_
    refine NB.yes (by assumption) ?_
    refine NB.yes (by assumption) ?_
    refine NB.yes (by assumption) ?_
    refine NB.yes (by assumption) ?_
    refine NB.yes (by assumption) ?_
    refine NB.yes (by assumption) ?_
    apply NDr.pure
    · refine NB.yes (by assumption) ?_
      exact ⟨rfl, rfl⟩
    apply NDr.pure
    · exact ⟨rfl, rfl⟩
    apply NDr.pure
    · exact ⟨rfl, rfl⟩
    refine NP.mk (by kernel_rfl) ?_
    refine NRet.boolE (b := false) ?_ (NRet.mk [] rfl ⟨.refl _, rfl⟩)
    grind [formed, vecOk, all_le]
  apply NDr.rd [0]
  · intro fH TH
    exact ⟨rfl, rfl⟩
  refine NB.no (by assumption) ?_
  apply NDr.rd [0]
  · intro fH TH
    exact ⟨rfl, rfl⟩
  refine NB.no (by assumption) ?_
  apply NDr.rd [0]
  · intro fH TH
    exact ⟨rfl, rfl⟩
  refine NB.no (by assumption) ?_
  apply NDr.rd [0]
  · intro fH TH
    exact ⟨rfl, rfl⟩
  refine NB.no (by assumption) ?_
  apply NDr.pure
  · refine NCall.call (k3) rfl rfl ?_
    exact ⟨rfl, rfl⟩
  refine NB.no (by assumption) ?_
  apply NDr.rd [0]
  · intro fH TH
    exact ⟨rfl, rfl⟩
  refine NB.no (by assumption) ?_
  apply NDr.rd [0]
  · intro fH TH
    exact ⟨rfl, rfl⟩
  refine NB.no (by assumption) ?_
  apply NDr.pure
  · refine NW.i64 (by omega) (by omega) ?_
    exact ⟨rfl, rfl⟩
  refine NB.no (by assumption) ?_
  apply NDr.pure
  · exact NB.det'
  apply NDr.pure
  · refine NB.no (by assumption) ?_
    exact ⟨rfl, rfl⟩
  apply NDr.pure
  · exact ⟨rfl, rfl⟩
  refine NB.mk (fun hk27 => ?_) (fun hk27 => ?_)
  · refine NB.yes (by assumption) ?_
    refine NB.yes (by assumption) ?_
    apply NDr.pure
    · refine NB.yes (by assumption) ?_
      exact ⟨rfl, rfl⟩
    refine NP.mk (by kernel_rfl) ?_
    refine NRet.boolE (b := false) ?_ (NRet.mk [] rfl ⟨.refl _, rfl⟩)
    grind [formed, vecOk, all_le]
  apply NDr.rd [0]
  · intro fH TH
    exact ⟨rfl, rfl⟩
  refine NB.no (by assumption) ?_
  apply NDr.rd [0]
  · intro fH TH
    exact ⟨rfl, rfl⟩
  refine NB.no (by assumption) ?_
  apply NDr.pure
  · refine NCall.call (k4) rfl rfl ?_
    exact ⟨rfl, rfl⟩
  apply NDr.pure
  · refine NB.no (by assumption) ?_
    exact ⟨rfl, rfl⟩
  refine NP.mk (by kernel_rfl) ?_
  refine NB.mk (fun hk34 => ?_) (fun hk34 => ?_)
  · refine NRet.boolE (b := false) ?_ (NRet.mk [] rfl ⟨.refl _, rfl⟩)
    grind [formed, vecOk, all_le]
  refine NCall.call (k5) rfl rfl ?_
  refine NB.mk (fun hk35 => ?_) (fun hk35 => ?_)
  · refine NB.yes (by assumption) ?_
    refine NB.yes (by assumption) ?_
    refine NB.yes (by assumption) ?_
    refine NB.yes (by assumption) ?_
    refine NB.yes (by assumption) ?_
    refine NB.yes (by assumption) ?_
    refine NB.yes (by assumption) ?_
    refine NB.yes (by assumption) ?_
    refine NCall.call (k6) rfl rfl ?_
    refine NB.yes (by assumption) ?_
    refine NRet.boolE ?_ (NRet.mk [] rfl ⟨.refl _, rfl⟩)
    grind [formed, vecOk, all_le]
  refine NB.no (by assumption) ?_
  refine NB.no (by assumption) ?_
  refine NB.no (by assumption) ?_
  refine NB.no (by assumption) ?_
  refine NB.no (by assumption) ?_
  refine NB.no (by assumption) ?_
  refine NB.no (by assumption) ?_
  refine NB.no (by assumption) ?_
  refine NB.no (by assumption) ?_
  refine NRet.boolE (b := false) ?_ (NRet.mk [] rfl ⟨.refl _, rfl⟩)
  grind [formed, vecOk, all_le]
theorem formed13_walk (t : Txn) (ht : smTxn t) : ACalls Try.prog Nm.ref13_Formed [txnA t] [] (.bool (formed t)) [] := by
  refine ACalls_of tab (dr_snd tab mixed) Nm.ref13_Formed_h rfl (by kernel_rfl) (Nat.le_of_ble_eq_true rfl) rfl ?_
  obtain ⟨hs, h1, h2, h3⟩ := ht
  have k1 := trim7_walk t.deps (by omega)
  have k2 := equal7_walk t.deps (trim t.deps) (by omega)
  have k3 := at7_walk t.deps t.node (by omega)
  have k5 := right10_walk t.node t.seq t.effs (by omega) h3
  have k6 := effHeard10_walk t.effs t.node t.seq t.deps (by omega) h3 (by omega)
  obtain ⟨hs1, hs2⟩ := hs
  refine NP.mk (by kernel_rfl) ?_
  apply NDr.rd [0]
  · intro fH TH
    exact ⟨rfl, rfl⟩
  apply NDr.rd [0]
  · intro fH TH
    exact ⟨rfl, rfl⟩
  apply NDr.pure
  · exact NB.det
  apply NDr.pure
  · exact ⟨rfl, rfl⟩
  refine NB.mk (fun hk2 => ?_) (fun hk2 => ?_)
  · refine NB.yes (by assumption) ?_
    refine NB.yes (by assumption) ?_
    apply NDr.pure
    · refine NB.yes (by assumption) ?_
      exact ⟨rfl, rfl⟩
    apply NDr.pure
    · exact ⟨rfl, rfl⟩
    apply NDr.pure
    · exact ⟨rfl, rfl⟩
    apply NDr.pure
    · exact ⟨rfl, rfl⟩
    apply NDr.pure
    · exact ⟨rfl, rfl⟩
    apply NDr.pure
    · exact ⟨rfl, rfl⟩
    apply NDr.pure
    · exact ⟨rfl, rfl⟩
    apply NDr.pure
    · exact ⟨rfl, rfl⟩
    apply NDr.pure
    · exact ⟨rfl, rfl⟩
    apply NDr.pure
    · exact ⟨rfl, rfl⟩
    apply NDr.pure
    · exact ⟨rfl, rfl⟩
    refine NP.mk (by kernel_rfl) ?_
    refine NRet.boolE (b := false) ?_ (NRet.mk [] rfl ⟨.refl _, rfl⟩)
    grind [formed, vecOk, all_le]
  apply NDr.rd [0]
  · intro fH TH
    exact ⟨rfl, rfl⟩
  refine NB.no (by assumption) ?_
  apply NDr.rd [0]
  · intro fH TH
    exact ⟨rfl, rfl⟩
  refine NB.no (by assumption) ?_
  apply NDr.pure
  · exact NB.det
  apply NDr.pure
  · refine NB.no (by assumption) ?_
    exact ⟨rfl, rfl⟩
  apply NDr.pure
  · exact ⟨rfl, rfl⟩
  refine NB.mk (fun hk10 => ?_) (fun hk10 => ?_)
  · refine NB.yes (by assumption) ?_
    refine NB.yes (by assumption) ?_
    apply NDr.pure
    · refine NB.yes (by assumption) ?_
      exact ⟨rfl, rfl⟩
    apply NDr.pure
    · exact ⟨rfl, rfl⟩
    apply NDr.pure
    · exact ⟨rfl, rfl⟩
    apply NDr.pure
    · exact ⟨rfl, rfl⟩
    apply NDr.pure
    · exact ⟨rfl, rfl⟩
    apply NDr.pure
    · exact ⟨rfl, rfl⟩
    apply NDr.pure
    · exact ⟨rfl, rfl⟩
    apply NDr.pure
    · exact ⟨rfl, rfl⟩
    apply NDr.pure
    · exact ⟨rfl, rfl⟩
    refine NP.mk (by kernel_rfl) ?_
    refine NRet.boolE (b := false) ?_ (NRet.mk [] rfl ⟨.refl _, rfl⟩)
    grind [formed, vecOk, all_le]
  apply NDr.rd [0]
  · intro fH TH
    exact ⟨rfl, rfl⟩
  refine NB.no (by assumption) ?_
  apply NDr.rd [0]
  · intro fH TH
    exact ⟨rfl, rfl⟩
  refine NB.no (by assumption) ?_
  apply NDr.pure
  · exact NB.det
  apply NDr.pure
  · refine NB.no (by assumption) ?_
    exact ⟨rfl, rfl⟩
  apply NDr.pure
  · exact ⟨rfl, rfl⟩
  refine NB.mk (fun hk18 => ?_) (fun hk18 => ?_)
  · refine NB.yes (by assumption) ?_
    refine NB.yes (by assumption) ?_
    apply NDr.pure
    · refine NB.yes (by assumption) ?_
      exact ⟨rfl, rfl⟩
    apply NDr.pure
    · exact ⟨rfl, rfl⟩
    apply NDr.pure
    · exact ⟨rfl, rfl⟩
    apply NDr.pure
    · exact ⟨rfl, rfl⟩
    apply NDr.pure
    · exact ⟨rfl, rfl⟩
    apply NDr.pure
    · exact ⟨rfl, rfl⟩
    apply NDr.pure
    · exact ⟨rfl, rfl⟩
    refine NP.mk (by kernel_rfl) ?_
    refine NRet.boolE (b := false) ?_ (NRet.mk [] rfl ⟨.refl _, rfl⟩)
    grind [formed, vecOk, all_le]
  apply NDr.rd [0]
  · intro fH TH
    exact ⟨rfl, rfl⟩
  refine NB.no (by assumption) ?_
  apply NDr.rd [0]
  · intro fH TH
    exact ⟨rfl, rfl⟩
  refine NB.no (by assumption) ?_
  apply NDr.pure
  · exact NB.det
  apply NDr.pure
  · refine NB.no (by assumption) ?_
    exact ⟨rfl, rfl⟩
  apply NDr.pure
  · exact ⟨rfl, rfl⟩
  refine NB.mk (fun hk26 => ?_) (fun hk26 => ?_)
  · refine NB.yes (by assumption) ?_
    refine NB.yes (by assumption) ?_
    refine NB.yes (by assumption) ?_
    apply NDr.pure
    · refine NB.yes (by assumption) ?_
      exact ⟨rfl, rfl⟩
    apply NDr.pure
    · exact ⟨rfl, rfl⟩
    apply NDr.pure
    · exact ⟨rfl, rfl⟩
    apply NDr.pure
    · exact ⟨rfl, rfl⟩
    apply NDr.pure
    · exact ⟨rfl, rfl⟩
    refine NP.mk (by kernel_rfl) ?_
    refine NRet.boolE (b := false) ?_ (NRet.mk [] rfl ⟨.refl _, rfl⟩)
    grind [formed, vecOk, all_le]
  apply NDr.rd [0]
  · intro fH TH
    exact ⟨rfl, rfl⟩
  refine NB.no (by assumption) ?_
  apply NDr.rd [0]
  · intro fH TH
    exact ⟨rfl, rfl⟩
  refine NB.no (by assumption) ?_
  apply NDr.pure
  · exact ⟨rfl, rfl⟩
  refine NB.no (by assumption) ?_
  apply NDr.pure
  · exact NB.det
  apply NDr.pure
  · refine NB.no (by assumption) ?_
    exact ⟨rfl, rfl⟩
  apply NDr.pure
  · exact ⟨rfl, rfl⟩
  refine NB.mk (fun hk36 => ?_) (fun hk36 => ?_)
  · refine NB.yes (by assumption) ?_
    refine NB.yes (by assumption) ?_
    refine NB.yes (by assumption) ?_
    apply NDr.pure
    · refine NB.yes (by assumption) ?_
      exact ⟨rfl, rfl⟩
    apply NDr.pure
    · exact ⟨rfl, rfl⟩
    apply NDr.pure
    · exact ⟨rfl, rfl⟩
    refine NP.mk (by kernel_rfl) ?_
    refine NRet.boolE (b := false) ?_ (NRet.mk [] rfl ⟨.refl _, rfl⟩)
    grind [formed, vecOk, all_le]
  apply NDr.rd [0]
  · intro fH TH
    exact ⟨rfl, rfl⟩
  refine NB.no (by assumption) ?_
  apply NDr.rd [0]
  · intro fH TH
    exact ⟨rfl, rfl⟩
  refine NB.no (by assumption) ?_
  apply NDr.pure
  · exact ⟨rfl, rfl⟩
  refine NB.no (by assumption) ?_
  apply NDr.pure
  · exact NB.det
  apply NDr.pure
  · refine NB.no (by assumption) ?_
    exact ⟨rfl, rfl⟩
  apply NDr.pure
  · exact ⟨rfl, rfl⟩
  refine NB.mk (fun hk46 => ?_) (fun hk46 => ?_)
  · refine NB.yes (by assumption) ?_
    refine NB.yes (by assumption) ?_
    refine NB.yes (by assumption) ?_
    refine NB.yes (by assumption) ?_
    refine NB.yes (by assumption) ?_
    refine NB.yes (by assumption) ?_
    apply NDr.pure
    · refine NB.yes (by assumption) ?_
      exact ⟨rfl, rfl⟩
    refine NP.mk (by kernel_rfl) ?_
    refine NRet.boolE (b := false) ?_ (NRet.mk [] rfl ⟨.refl _, rfl⟩)
    grind [formed, vecOk, all_le]
  apply NDr.rd [0]
  · intro fH TH
    exact ⟨rfl, rfl⟩
  refine NB.no (by assumption) ?_
  apply NDr.rd [0]
  · intro fH TH
    exact ⟨rfl, rfl⟩
  refine NB.no (by assumption) ?_
  apply NDr.rd [0]
  · intro fH TH
    exact ⟨rfl, rfl⟩
  refine NB.no (by assumption) ?_
  apply NDr.rd [0]
  · intro fH TH
    exact ⟨rfl, rfl⟩
  refine NB.no (by assumption) ?_
  apply NDr.pure
  · refine NCall.call (k1) rfl rfl ?_
    exact ⟨rfl, rfl⟩
  refine NB.no (by assumption) ?_
  apply NDr.pure
  · refine NCall.call (k2) rfl rfl ?_
    exact ⟨rfl, rfl⟩
  refine NB.no (by assumption) ?_
  apply NDr.pure
  · exact NB.det0'
  apply NDr.pure
  · refine NB.no (by assumption) ?_
    exact ⟨rfl, rfl⟩
  refine NP.mk (by kernel_rfl) ?_
  refine NB.mk (fun hk61 => ?_) (fun hk61 => ?_)
  · refine NRet.boolE (b := false) ?_ (NRet.mk [] rfl ⟨.refl _, rfl⟩)
    grind [formed, vecOk, all_le]
  refine NLoop.mk [] [1, 3] (fun m vs H => ∃ i, i ≤ t.deps.length ∧ m = t.deps.length - i ∧ (∀ x ∈ t.deps.take i, decide (x ≤ 1073741824) = true) ∧ H = [.row .box (.agg 4) [txnA t]] ∧ vs = [.ptr 0 0 0, i64 i]) rfl ?_ ?_
  · exact Canon.mk [0] rfl ⟨t.deps.length, 0, Nat.zero_le _, rfl, by simp, rfl, rfl⟩
  · rintro m vs H ⟨i, hi, rfl, hall, rfl, rfl⟩
    by_cases hil : i < t.deps.length
    · obtain ⟨f1, f2⟩ := all_step (p := fun x => decide (x ≤ 1073741824)) hil hall
      by_cases hd : t.deps[i] ≤ 1073741824
      · refine ND.yes (by (simp only [List.length_map, List.length_append, List.length_replicate, List.length_cons, List.length_nil, List.length_take, List.length_drop]; omega)) ?_
        refine NP.mk (by omega) ?_
        refine NG.mapN (by omega) ?_
        refine ND.no (by omega) ?_
        refine NW.i64 (by omega) (by omega) ?_
        exact Canon.mk [0] rfl ⟨t.deps.length - (i + 1), by omega, i + 1, by omega, rfl, f2 (decide_eq_true hd), rfl, rfl⟩
      · have f1 := f1 (decide_eq_false hd)
        refine ND.yes (by (simp only [List.length_map, List.length_append, List.length_replicate, List.length_cons, List.length_nil, List.length_take, List.length_drop]; omega)) ?_
        refine NP.mk (by omega) ?_
        refine NG.mapN (by omega) ?_
        refine ND.yes (by omega) ?_
        refine NRet.boolE (b := false) ?_ (NRet.mk [] rfl ⟨.refl _, rfl⟩)
        grind [formed, vecOk]
    · have : i = t.deps.length := by omega
      subst this
      have f1 := all_end (p := fun x => decide (x ≤ 1073741824)) hall
      have hb : 0 ≤ vatI t.deps t.node ∧ vatI t.deps t.node ≤ 1073741824 := ⟨vatI_nonneg _ _, vatI_le (fun x hx => of_decide_eq_true (List.all_eq_true.1 f1 x hx)) (by omega) _⟩
      refine ND.no (by (simp only [List.length_map, List.length_append, List.length_replicate, List.length_cons, List.length_nil, List.length_take, List.length_drop]; omega)) ?_
      refine NP.mk (by kernel_rfl) ?_
      apply NDr.rd [0]
      · intro fH TH
        exact ⟨rfl, rfl⟩
      apply NDr.rd [0]
      · intro fH TH
        exact ⟨rfl, rfl⟩
      apply NDr.rd [0]
      · intro fH TH
        exact ⟨rfl, rfl⟩
      apply NDr.rd [0]
      · intro fH TH
        exact ⟨rfl, rfl⟩
      apply NDr.pure
      · refine NCall.call (k3) rfl rfl ?_
        exact ⟨rfl, rfl⟩
      apply NDr.pure
      · refine NW.i64 (by omega) (by omega) ?_
        exact ⟨rfl, rfl⟩
      apply NDr.rd [0]
      · intro fH TH
        exact ⟨rfl, rfl⟩
      apply NDr.rd [0]
      · intro fH TH
        exact ⟨rfl, rfl⟩
      apply NDr.pure
      · exact NB.det
      apply NDr.pure
      · exact ⟨rfl, rfl⟩
      refine NB.mk (fun hk3 => ?_) (fun hk3 => ?_)
      · apply NDr.rd [0]
        · intro fH TH
          exact ⟨rfl, rfl⟩
        refine NB.yes (by assumption) ?_
        apply NDr.rd [0]
        · intro fH TH
          exact ⟨rfl, rfl⟩
        refine NB.yes (by assumption) ?_
        apply NDr.rd [0]
        · intro fH TH
          exact ⟨rfl, rfl⟩
        refine NB.yes (by assumption) ?_
        apply NDr.rd [0]
        · intro fH TH
          exact ⟨rfl, rfl⟩
        refine NB.yes (by assumption) ?_
        apply NDr.rd [0]
        · intro fH TH
          exact ⟨rfl, rfl⟩
        refine NB.yes (by assumption) ?_
        apply NDr.rd [0]
        · intro fH TH
          exact ⟨rfl, rfl⟩
        refine NB.yes (by assumption) ?_
        apply NDr.pure
        · refine NCall.call (k5) rfl rfl ?_
          exact ⟨rfl, rfl⟩
        apply NDr.pure
        · refine NB.yes (by assumption) ?_
          exact ⟨rfl, rfl⟩
        apply NDr.pure
        · exact ⟨rfl, rfl⟩
        refine NB.mk (fun hk11 => ?_) (fun hk11 => ?_)
        · apply NDr.rd [0]
          · intro fH TH
            exact ⟨rfl, rfl⟩
          refine NB.yes (by assumption) ?_
          apply NDr.rd [0]
          · intro fH TH
            exact ⟨rfl, rfl⟩
          refine NB.yes (by assumption) ?_
          apply NDr.rd [0]
          · intro fH TH
            exact ⟨rfl, rfl⟩
          refine NB.yes (by assumption) ?_
          apply NDr.rd [0]
          · intro fH TH
            exact ⟨rfl, rfl⟩
          refine NB.yes (by assumption) ?_
          apply NDr.rd [0]
          · intro fH TH
            exact ⟨rfl, rfl⟩
          refine NB.yes (by assumption) ?_
          apply NDr.rd [0]
          · intro fH TH
            exact ⟨rfl, rfl⟩
          refine NB.yes (by assumption) ?_
          apply NDr.rd [0]
          · intro fH TH
            exact ⟨rfl, rfl⟩
          refine NB.yes (by assumption) ?_
          apply NDr.rd [0]
          · intro fH TH
            exact ⟨rfl, rfl⟩
          refine NB.yes (by assumption) ?_
          apply NDr.pure
          · refine NCall.call (k6) rfl rfl ?_
            exact ⟨rfl, rfl⟩
          apply NDr.pure
          · refine NB.yes (by assumption) ?_
            exact ⟨rfl, rfl⟩
          apply NDr.pure
          · exact ⟨rfl, rfl⟩
          refine NP.mk (by kernel_rfl) ?_
          refine NRet.boolE ?_ (NRet.mk [] rfl ⟨.refl _, rfl⟩)
          grind [formed, vecOk]
        refine NB.no (by assumption) ?_
        refine NB.no (by assumption) ?_
        refine NB.no (by assumption) ?_
        refine NB.no (by assumption) ?_
        refine NB.no (by assumption) ?_
        refine NB.no (by assumption) ?_
        refine NB.no (by assumption) ?_
        refine NB.no (by assumption) ?_
        apply NDr.pure
        · refine NB.no (by assumption) ?_
          exact ⟨rfl, rfl⟩
        apply NDr.pure
        · exact ⟨rfl, rfl⟩
        refine NP.mk (by kernel_rfl) ?_
        refine NRet.boolE (b := false) ?_ (NRet.mk [] rfl ⟨.refl _, rfl⟩)
        grind [formed, vecOk]
      refine NB.no (by assumption) ?_
      refine NB.no (by assumption) ?_
      refine NB.no (by assumption) ?_
      refine NB.no (by assumption) ?_
      refine NB.no (by assumption) ?_
      refine NB.no (by assumption) ?_
      apply NDr.pure
      · refine NB.no (by assumption) ?_
        exact ⟨rfl, rfl⟩
      apply NDr.pure
      · exact ⟨rfl, rfl⟩
      apply NDr.pure
      · exact ⟨rfl, rfl⟩
      apply NDr.pure
      · exact ⟨rfl, rfl⟩
      refine NP.mk (by kernel_rfl) ?_
      refine NRet.boolE (b := false) ?_ (NRet.mk [] rfl ⟨.refl _, rfl⟩)
      grind [formed, vecOk]
end Go.Bv
