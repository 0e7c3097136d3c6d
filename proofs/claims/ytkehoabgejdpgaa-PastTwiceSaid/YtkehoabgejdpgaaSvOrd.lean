/- Part of the lift: an abstract walk of the program's code, proved sound, and what it shows of this program. -/
import Derived.Test.YtkehoabgejdpgaaSvVecRO
namespace Go.Bv
set_option linter.unusedSimpArgs false
set_option linter.unusedVariables false
set_option maxHeartbeats 4000000
open Go Go.Proofs

def ready (v : List Int) (t : Txn) : Bool := decide (1 ≤ t.seq) && (decide (t.seq - 1 = vatI v t.node) && vwithin t.deps v)
def next (v : List Int) (t : Txn) : List Int := if 0 ≤ t.node ∧ t.node < 8 ∧ 0 ≤ t.seq ∧ t.seq ≤ 1073741824 then trim (vset v t.node.toNat t.seq) else trim v

theorem ready_walk (v : List Int) (t : Txn) (hv : v.length ≤ 2 ^ 38) (ht : t.deps.length ≤ 2 ^ 38) (hs : okInt t.seq) : ACalls Try.prog Nm.order_Ready [ints v, txnA t] [] (.bool (ready v t)) [] := by
  refine ACalls_of tab (dr_snd tab mixed) Nm.order_Ready_h rfl (by kernel_rfl) (Nat.le_of_ble_eq_true rfl) rfl ?_
  unfold ready
  have h1 := vecAt_walk v t.node (by omega)
  have h2 := vecWithin_walk t.deps v (by omega) (by omega)
  obtain ⟨hs1, hs2⟩ := hs
  by_cases h0 : 1 ≤ t.seq
  · rw [decide_eq_true h0, Bool.true_and]
    by_cases h3 : t.seq - 1 = vatI v t.node
    · rw [decide_eq_true h3, Bool.true_and]
      refine NP.mk (by kernel_rfl) ?_
      apply NDr.rd [0]
      · intro fH TH
        exact ⟨rfl, rfl⟩
      apply NDr.rd [0]
      · intro fH TH
        exact ⟨rfl, rfl⟩
      apply NDr.pure
      · refine ND.yes (by omega) ?_
        exact ⟨rfl, rfl⟩
      apply NDr.pure
      · exact ⟨rfl, rfl⟩
      apply NDr.rd [0]
      · intro fH TH
        exact ⟨rfl, rfl⟩
      apply NDr.rd [0]
      · intro fH TH
        exact ⟨rfl, rfl⟩
      apply NDr.pure
      · refine NW.i64 (by omega) (by omega) ?_
        exact ⟨rfl, rfl⟩
      apply NDr.pure
      · exact ⟨rfl, rfl⟩
      apply NDr.rd [0]
      · intro fH TH
        exact ⟨rfl, rfl⟩
      apply NDr.rd [0]
      · intro fH TH
        exact ⟨rfl, rfl⟩
      apply NDr.pure
      · refine NCall.call (h1) rfl rfl ?_
        exact ⟨rfl, rfl⟩
      apply NDr.pure
      · refine ND.yes (by omega) ?_
        exact ⟨rfl, rfl⟩
      apply NDr.pure
      · exact ⟨rfl, rfl⟩
      apply NDr.pure
      · exact ⟨rfl, rfl⟩
      apply NDr.rd [0]
      · intro fH TH
        exact ⟨rfl, rfl⟩
      apply NDr.rd [0]
      · intro fH TH
        exact ⟨rfl, rfl⟩
      apply NDr.pure
      · exact ⟨rfl, rfl⟩
      apply NDr.pure
      · refine NCall.call (h2) rfl rfl ?_
        exact ⟨rfl, rfl⟩
      apply NDr.pure
      · exact ⟨rfl, rfl⟩
      apply NDr.pure
      · exact ⟨rfl, rfl⟩
      refine NP.mk (by kernel_rfl) ?_
      exact NRet.mk [] rfl ⟨.refl _, rfl⟩
    · rw [decide_eq_false h3, Bool.false_and]
      refine NP.mk (by kernel_rfl) ?_
      apply NDr.rd [0]
      · intro fH TH
        exact ⟨rfl, rfl⟩
      apply NDr.rd [0]
      · intro fH TH
        exact ⟨rfl, rfl⟩
      apply NDr.pure
      · refine ND.yes (by omega) ?_
        exact ⟨rfl, rfl⟩
      apply NDr.pure
      · exact ⟨rfl, rfl⟩
      apply NDr.rd [0]
      · intro fH TH
        exact ⟨rfl, rfl⟩
      apply NDr.rd [0]
      · intro fH TH
        exact ⟨rfl, rfl⟩
      apply NDr.pure
      · refine NW.i64 (by omega) (by omega) ?_
        exact ⟨rfl, rfl⟩
      apply NDr.pure
      · exact ⟨rfl, rfl⟩
      apply NDr.rd [0]
      · intro fH TH
        exact ⟨rfl, rfl⟩
      apply NDr.rd [0]
      · intro fH TH
        exact ⟨rfl, rfl⟩
      apply NDr.pure
      · refine NCall.call (h1) rfl rfl ?_
        exact ⟨rfl, rfl⟩
      apply NDr.pure
      · refine ND.no (by omega) ?_
        exact ⟨rfl, rfl⟩
      apply NDr.pure
      · exact ⟨rfl, rfl⟩
      apply NDr.pure
      · exact ⟨rfl, rfl⟩
      apply NDr.pure
      · exact ⟨rfl, rfl⟩
      apply NDr.pure
      · exact ⟨rfl, rfl⟩
      refine NP.mk (by kernel_rfl) ?_
      exact NRet.mk [] rfl ⟨.refl _, rfl⟩
  · rw [decide_eq_false h0, Bool.false_and]
    refine NP.mk (by kernel_rfl) ?_
    apply NDr.rd [0]
    · intro fH TH
      exact ⟨rfl, rfl⟩
    apply NDr.rd [0]
    · intro fH TH
      exact ⟨rfl, rfl⟩
    apply NDr.pure
    · refine ND.no (by omega) ?_
      exact ⟨rfl, rfl⟩
    apply NDr.pure
    · exact ⟨rfl, rfl⟩
    apply NDr.pure
    · exact ⟨rfl, rfl⟩
    apply NDr.pure
    · exact ⟨rfl, rfl⟩
    apply NDr.pure
    · exact ⟨rfl, rfl⟩
    apply NDr.pure
    · exact ⟨rfl, rfl⟩
    refine NP.mk (by kernel_rfl) ?_
    exact NRet.mk [] rfl ⟨.refl _, rfl⟩

theorem dot_walk (t : Txn) : ACalls Try.prog Nm.txn_Dot [txnA t] [] (.agg [i64 t.node, i64 t.seq, i64 0]) [] := by
  refine ACalls_of tab (dr_snd tab mixed) Nm.txn_Dot_h rfl (by kernel_rfl) (Nat.le_of_ble_eq_true rfl) rfl ?_
  exact NRet.mk [] rfl ⟨.refl _, rfl⟩

theorem next_walk (v : List Int) (t : Txn) (hv : v.length ≤ 2 ^ 39) : ACalls Try.prog Nm.order_Next [ints v, txnA t] [] (ints (next v t)) [] := by
  refine ACalls_of tab (dr_snd tab mixed) Nm.order_Next_h rfl (by kernel_rfl) (Nat.le_of_ble_eq_true rfl) rfl ?_
  unfold next
  by_cases h : 0 ≤ t.node ∧ t.node < 8 ∧ 0 ≤ t.seq ∧ t.seq ≤ 1073741824
  · rw [if_pos h]
    refine NCall.call (dot_walk t) rfl rfl ?_
    refine NCall.call (vecWith_walk v t.node t.seq hv h) rfl rfl ?_
    refine ND.yes (by omega) ?_
    exact NRet.mk [] rfl ⟨.refl _, rfl⟩
  · rw [if_neg h]
    refine NCall.call (dot_walk t) rfl rfl ?_
    refine NCall.call (vecWith_bad v t.node t.seq h) rfl rfl ?_
    refine ND.no (by omega) ?_
    refine NCall.call (vecTrim_walk v (by omega)) rfl rfl ?_
    exact NRet.mk [] rfl ⟨.refl _, rfl⟩

theorem ready14_walk (v : List Int) (t : Txn) (hv : v.length ≤ 2 ^ 38) (ht : t.deps.length ≤ 2 ^ 38) (hs : okInt t.seq) : ACalls Try.prog Nm.ref14_Ready [ints v, txnA t] [] (.bool (ready v t)) [] := by
  refine ACalls_of tab (dr_snd tab mixed) Nm.ref14_Ready_h rfl (by kernel_rfl) (Nat.le_of_ble_eq_true rfl) rfl ?_
  unfold ready
  have h1 := at7_walk v t.node (by omega)
  have h2 := within7_walk t.deps v (by omega) (by omega)
  obtain ⟨hs1, hs2⟩ := hs
  by_cases h0 : 1 ≤ t.seq
  · rw [decide_eq_true h0, Bool.true_and]
    by_cases h3 : t.seq - 1 = vatI v t.node
    · rw [decide_eq_true h3, Bool.true_and]
      refine NP.mk (by kernel_rfl) ?_
      apply NDr.rd [0]
      · intro fH TH
        exact ⟨rfl, rfl⟩
      apply NDr.rd [0]
      · intro fH TH
        exact ⟨rfl, rfl⟩
      apply NDr.pure
      · refine ND.yes (by omega) ?_
        exact ⟨rfl, rfl⟩
      apply NDr.pure
      · exact ⟨rfl, rfl⟩
      apply NDr.pure
      · exact ⟨rfl, rfl⟩
      apply NDr.rd [0]
      · intro fH TH
        exact ⟨rfl, rfl⟩
      apply NDr.rd [0]
      · intro fH TH
        exact ⟨rfl, rfl⟩
      apply NDr.pure
      · refine NCall.call (h1) rfl rfl ?_
        exact ⟨rfl, rfl⟩
      apply NDr.rd [0]
      · intro fH TH
        exact ⟨rfl, rfl⟩
      apply NDr.rd [0]
      · intro fH TH
        exact ⟨rfl, rfl⟩
      apply NDr.pure
      · refine NW.i64 (by omega) (by omega) ?_
        exact ⟨rfl, rfl⟩
      apply NDr.pure
      · refine ND.yes (by omega) ?_
        exact ⟨rfl, rfl⟩
      apply NDr.pure
      · exact ⟨rfl, rfl⟩
      apply NDr.pure
      · exact ⟨rfl, rfl⟩
      apply NDr.rd [0]
      · intro fH TH
        exact ⟨rfl, rfl⟩
      apply NDr.rd [0]
      · intro fH TH
        exact ⟨rfl, rfl⟩
      apply NDr.pure
      · exact ⟨rfl, rfl⟩
      apply NDr.pure
      · refine NCall.call (h2) rfl rfl ?_
        exact ⟨rfl, rfl⟩
      apply NDr.pure
      · exact ⟨rfl, rfl⟩
      apply NDr.pure
      · exact ⟨rfl, rfl⟩
      refine NP.mk (by kernel_rfl) ?_
      exact NRet.mk [] rfl ⟨.refl _, rfl⟩
    · rw [decide_eq_false h3, Bool.false_and]
      refine NP.mk (by kernel_rfl) ?_
      apply NDr.rd [0]
      · intro fH TH
        exact ⟨rfl, rfl⟩
      apply NDr.rd [0]
      · intro fH TH
        exact ⟨rfl, rfl⟩
      apply NDr.pure
      · refine ND.yes (by omega) ?_
        exact ⟨rfl, rfl⟩
      apply NDr.pure
      · exact ⟨rfl, rfl⟩
      apply NDr.pure
      · exact ⟨rfl, rfl⟩
      apply NDr.rd [0]
      · intro fH TH
        exact ⟨rfl, rfl⟩
      apply NDr.rd [0]
      · intro fH TH
        exact ⟨rfl, rfl⟩
      apply NDr.pure
      · refine NCall.call (h1) rfl rfl ?_
        exact ⟨rfl, rfl⟩
      apply NDr.rd [0]
      · intro fH TH
        exact ⟨rfl, rfl⟩
      apply NDr.rd [0]
      · intro fH TH
        exact ⟨rfl, rfl⟩
      apply NDr.pure
      · refine NW.i64 (by omega) (by omega) ?_
        exact ⟨rfl, rfl⟩
      apply NDr.pure
      · refine ND.no (by omega) ?_
        exact ⟨rfl, rfl⟩
      apply NDr.pure
      · exact ⟨rfl, rfl⟩
      apply NDr.pure
      · exact ⟨rfl, rfl⟩
      apply NDr.pure
      · exact ⟨rfl, rfl⟩
      apply NDr.pure
      · exact ⟨rfl, rfl⟩
      refine NP.mk (by kernel_rfl) ?_
      exact NRet.mk [] rfl ⟨.refl _, rfl⟩
  · rw [decide_eq_false h0, Bool.false_and]
    refine NP.mk (by kernel_rfl) ?_
    apply NDr.rd [0]
    · intro fH TH
      exact ⟨rfl, rfl⟩
    apply NDr.rd [0]
    · intro fH TH
      exact ⟨rfl, rfl⟩
    apply NDr.pure
    · refine ND.no (by omega) ?_
      exact ⟨rfl, rfl⟩
    apply NDr.pure
    · exact ⟨rfl, rfl⟩
    apply NDr.pure
    · exact ⟨rfl, rfl⟩
    apply NDr.pure
    · exact ⟨rfl, rfl⟩
    apply NDr.pure
    · exact ⟨rfl, rfl⟩
    apply NDr.pure
    · exact ⟨rfl, rfl⟩
    refine NP.mk (by kernel_rfl) ?_
    exact NRet.mk [] rfl ⟨.refl _, rfl⟩

theorem next14_walk (v : List Int) (t : Txn) (hv : v.length ≤ 2 ^ 39) : ACalls Try.prog Nm.ref14_Next [ints v, txnA t] [] (ints (next v t)) [] := by
  refine ACalls_of tab (dr_snd tab mixed) Nm.ref14_Next_h rfl (by kernel_rfl) (Nat.le_of_ble_eq_true rfl) rfl ?_
  unfold next
  by_cases h : 0 ≤ t.node ∧ t.node < 8 ∧ 0 ≤ t.seq ∧ t.seq ≤ 1073741824
  · rw [if_pos h]
    refine NCall.call (with7_walk v t.node t.seq hv h) rfl rfl ?_
    refine ND.yes (by omega) ?_
    exact NRet.mk [] rfl ⟨.refl _, rfl⟩
  · rw [if_neg h]
    refine NCall.call (with7_bad v t.node t.seq h) rfl rfl ?_
    refine ND.no (by omega) ?_
    refine NCall.call (trim7_walk v (by omega)) rfl rfl ?_
    exact NRet.mk [] rfl ⟨.refl _, rfl⟩

/-- slices.Clone of transactions. -/
theorem cloneT_walk (es : List AV) (hl : es.length ≤ 2 ^ 40) : ACalls Try.prog Nm.slices_Clone_api_Txn_api_Txn [.list (.agg 4) es] [] (.own 0 0 es.length) [.row .vrow (.agg 4) es] := by
  refine ACalls_of tab (dr_snd tab mixed) Nm.slices_Clone_api_Txn_api_Txn_h rfl (by kernel_rfl) (Nat.le_of_ble_eq_true rfl) rfl ?_
  refine NN.mk (fun h => ?_) ?_
  · subst h
    exact NRet.ad [(2, .agg 4)] [0] rfl ⟨.refl _, rfl⟩
  · refine NFz.own ?_
    refine NApp.endA rfl (by simp; omega) ?_
    exact NRet.mk [1] rfl ⟨.refl _, rfl⟩

def ixI {α : Type} (p : α → Bool) (l : List α) : Int := match l.findIdx? p with
  | some i => i
  | none => -1
theorem find_step {α : Type} {p : α → Bool} {l : List α} {i : Nat} (h : i < l.length) (ht : ∀ x ∈ l.take i, p x = false) : (p l[i] = true → ixI p l = i) ∧ (p l[i] = false → ∀ x ∈ l.take (i + 1), p x = false) := by
  refine ⟨fun hp => ?_, fun hp x hx => ?_⟩
  · have : l.findIdx? p = some i := by
      rw [List.findIdx?_eq_some_iff_getElem]
      refine ⟨h, hp, fun j hj => ?_⟩
      have := ht l[j] (List.mem_take_iff_getElem.2 ⟨j, by omega, rfl⟩)
      simp [this]
    unfold ixI; rw [this]
  · rw [List.take_succ_eq_append_getElem h] at hx
    rcases List.mem_append.1 hx with hx | hx
    · exact ht x hx
    · rw [List.mem_singleton.1 hx]; exact hp
theorem find_none {α : Type} {p : α → Bool} {l : List α} (h : ∀ x ∈ l, p x = false) : ixI p l = -1 := by
  have : l.findIdx? p = none := by rw [List.findIdx?_eq_none_iff]; exact h
  unfold ixI; rw [this]

/-- slices.IndexFunc of transactions; the function looks into one box. -/
theorem indexT_walk (g : Nat) (cs : List AV) (l : List Txn) (p : Txn → Bool) (hl : l.length ≤ 2 ^ 40) (hg : ∀ t ∈ l, ACalls Try.prog g [txnA t, .ptr 0 0 0] [.row .box .leaf [.list .leaf cs]] (.bool (p t)) [.row .box .leaf [.list .leaf cs]]) :
    ACalls Try.prog Nm.slices_IndexFunc_api_Txn_api_Txn [txnsA l, .fn g [.ptr 0 0 0]] [.row .box .leaf [.list .leaf cs]] (i64 (ixI p l)) [.row .box .leaf [.list .leaf cs]] := by
  refine ACalls_of tab (dr_snd tab mixed) Nm.slices_IndexFunc_api_Txn_api_Txn_h rfl (by kernel_rfl) (Nat.le_of_ble_eq_true rfl) rfl ?_
  refine NLoop.mk [] [0, 1, 6, 7, 8] (fun m vs H => ∃ i, i ≤ l.length ∧ m = l.length - i ∧ (∀ x ∈ l.take i, p x = false) ∧ H = [.row .box .leaf [.list .leaf cs]] ∧ vs = [txnsA l, .fn g [.ptr 0 0 0], txnsA l, i64 l.length, i64 i]) rfl ?_ ?_
  · exact Canon.mk [] rfl ⟨l.length, 0, Nat.zero_le _, rfl, by simp, rfl, by simp [txnsA, i64]⟩
  · rintro m vs H ⟨i, hi, rfl, ht, rfl, rfl⟩
    by_cases hil : i < l.length
    · have hc := hg _ (List.getElem_mem hil)
      obtain ⟨f1, f2⟩ := find_step hil ht
      cases hp : p l[i] with
      | true =>
        rw [hp] at hc
        rw [f1 hp]
        refine ND.yes (by omega) ?_
        refine NP.mk (by omega) ?_
        refine NG.mapN (by omega) ?_
        refine NCall.atA (hc) ?_
        exact NRet.mk [] rfl ⟨.refl _, rfl⟩
      | false =>
        rw [hp] at hc
        refine ND.yes (by omega) ?_
        refine NP.mk (by omega) ?_
        refine NG.mapN (by omega) ?_
        refine NCall.atA (hc) ?_
        refine NW.i64 (by omega) (by omega) ?_
        exact Canon.mk [] rfl ⟨l.length - (i + 1), by omega, i + 1, by omega, rfl, f2 hp, rfl, rfl⟩
    · have : i = l.length := by omega
      subst this
      rw [List.take_length] at ht
      rw [find_none ht]
      refine ND.no (by omega) ?_
      exact NRet.mk [] rfl ⟨.refl _, rfl⟩
end Go.Bv
