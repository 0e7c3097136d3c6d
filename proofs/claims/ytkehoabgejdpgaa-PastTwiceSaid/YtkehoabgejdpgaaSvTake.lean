/- Part of the lift: an abstract walk of the program's code, proved sound, and what it shows of this program. -/
import Derived.Test.YtkehoabgejdpgaaSvEff
import Derived.Test.YtkehoabgejdpgaaSvOrdP
namespace Go.Bv
set_option linter.unusedSimpArgs false
set_option linter.unusedVariables false
set_option maxHeartbeats 4000000
open Go Go.Proofs

/-- A transaction that is not too large. -/
def smTxn (t : Txn) : Prop := okInt t.seq ∧ t.deps.length ≤ 2 ^ 30 ∧ t.effs.length ≤ 2 ^ 30 ∧ ∀ e ∈ t.effs, smEff e
def onlyT (t : Txn) (z : List (List UInt8)) : Txn := { t with effs := effsOnly t.effs z }
theorem effsOnly_all (l : List Eff) : effsOnly l [[]] = l := by
  unfold effsOnly
  rw [List.filter_eq_self]
  intro e _
  simp [begins]
theorem onlyT_all (t : Txn) : onlyT t [[]] = t := by unfold onlyT; rw [effsOnly_all]
theorem txnOnly_walk (t : Txn) (z : List (List UInt8)) (ht : smTxn t) (hz : z.length ≤ 2 ^ 40) : ACalls Try.prog Nm.txn_Only [txnA t, strsA z] [] (txnA (onlyT t z)) [] := by
  refine ACalls_of tab (dr_snd tab mixed) Nm.txn_Only_h rfl (by kernel_rfl) (Nat.le_of_ble_eq_true rfl) rfl ?_
  obtain ⟨h1, h2, h3, h4⟩ := ht
  refine NCall.call (cloneV_list t.deps (by omega)) rfl rfl ?_
  refine NCall.call (effOnly_walk t.effs z (by omega) hz h4) rfl rfl ?_
  exact NRet.mk [] rfl ⟨.refl _, rfl⟩
theorem txnOnlyAll_walk (t : Txn) (ht : smTxn t) : ACalls Try.prog Nm.txn_Only [txnA t, .list .leaf [.str []]] [] (txnA t) [] := by
  have := txnOnly_walk t [[]] ht (by simp)
  rwa [onlyT_all] at this
theorem takeF_walk (v : List Int) (t : Txn) (hv : v.length ≤ 2 ^ 38) (ht : smTxn t) : ACalls Try.prog Nm.order_Take_1 [txnA t, .ptr 0 0 0] [.row .box .leaf [.list .leaf (v.map i64)]] (.bool (ready v t)) [.row .box .leaf [.list .leaf (v.map i64)]] := by
  refine ACalls_of tab (dr_snd tab mixed) Nm.order_Take_1_h rfl (by kernel_rfl) (Nat.le_of_ble_eq_true rfl) rfl ?_
  refine NCall.call (ready_walk v t hv (by have := ht.2.1; omega) ht.1) rfl rfl ?_
  exact NRet.mk [] rfl ⟨.refl _, rfl⟩
theorem next_len (v : List Int) (t : Txn) : (next v t).length ≤ max v.length 8 := by
  by_cases h : okN t
  · rw [next_ok h]
    have h1 := trim_len (vset v t.node.toNat t.seq)
    have h2 := h.2.1
    simp only [vset, List.length_set, List.length_append, List.length_replicate] at h1 ⊢
    omega
  · rw [next_bad h]
    have := trim_len v; omega
theorem chain_drop {l : List Txn} {i : Nat} (h : i < l.length) (v : List Int) : chain v (l.drop i) = (ready v l[i] && chain (next v l[i]) (l.drop (i + 1))) := by
  rw [List.drop_eq_getElem_cons h]; rfl
theorem chain_walk (v : List Int) (l : List Txn) (hv : v.length ≤ 2 ^ 38) (hl : l.length ≤ 2 ^ 30) (hx : ∀ t ∈ l, smTxn t) : ACalls Try.prog Nm.order_Chain [ints v, txnsA l] [] (.bool (chain v l)) [] := by
  refine ACalls_of tab (dr_snd tab mixed) Nm.order_Chain_h rfl (by kernel_rfl) (Nat.le_of_ble_eq_true rfl) rfl ?_
  refine NLoop.mk [] [0, 1, 7, 8, 9] (fun m vs H => ∃ (i : Nat) (w : List Int), i ≤ l.length ∧ m = l.length - i ∧ w.length ≤ 2 ^ 38 ∧ chain v l = chain w (l.drop i) ∧ H = [] ∧ vs = [ints w, txnsA l, txnsA l, i64 l.length, i64 i]) rfl ?_ ?_
  · exact Canon.mk [] rfl ⟨l.length, 0, v, Nat.zero_le _, rfl, hv, rfl, rfl, by simp [txnsA, ints, i64]⟩
  · rintro m vs H ⟨i, w, hi, rfl, hw, hc, rfl, rfl⟩
    rw [hc]
    by_cases hil : i < l.length
    · have hs := hx _ (List.getElem_mem hil)
      have h1 := ready_walk w l[i] hw (by have := hs.2.1; omega) hs.1
      have h2 := next_walk w l[i] (by omega)
      have hn := next_len w l[i]
      rw [chain_drop hil]
      cases hr : ready w l[i] with
      | true =>
        rw [hr] at h1
        rw [Bool.true_and]
        refine ND.yes (by omega) ?_
        refine NP.mk (by omega) ?_
        refine NG.mapN (by omega) ?_
        refine NCall.call (h1) rfl rfl ?_
        refine NCall.call (h2) rfl rfl ?_
        refine NW.i64 (by omega) (by omega) ?_
        exact Canon.mk [] rfl ⟨l.length - (i + 1), by omega, i + 1, next w l[i], by omega, rfl, by omega, rfl, rfl, rfl⟩
      | false =>
        rw [hr] at h1
        rw [Bool.false_and]
        refine ND.yes (by omega) ?_
        refine NP.mk (by omega) ?_
        refine NG.mapN (by omega) ?_
        refine NCall.call (h1) rfl rfl ?_
        exact NRet.mk [] rfl ⟨.refl _, rfl⟩
    · rw [List.drop_eq_nil_of_le (by omega)]
      refine ND.no (by omega) ?_
      exact NRet.mk [] rfl ⟨.refl _, rfl⟩
/-- slices.IndexFunc of transactions in a row of one's own; the function looks into one box. -/
theorem indexTo_walk (g : Nat) (cs : List AV) (l : List Txn) (junk : List AV) (p : Txn → Bool) (hl : l.length ≤ 2 ^ 40) (hg : ∀ t ∈ l, ACalls Try.prog g [txnA t, .ptr 0 0 0] [.row .box .leaf [.list .leaf cs]] (.bool (p t)) [.row .box .leaf [.list .leaf cs]]) :
    ACalls Try.prog Nm.slices_IndexFunc_api_Txn_api_Txn [.own 1 0 l.length, .fn g [.ptr 0 0 0]] [.row .box .leaf [.list .leaf cs], .row .vrow (.agg 4) (l.map txnA ++ junk)] (i64 (ixI p l)) [.row .box .leaf [.list .leaf cs], .row .vrow (.agg 4) (l.map txnA ++ junk)] := by
  refine ACalls_of tab (dr_snd tab mixed) Nm.slices_IndexFunc_api_Txn_api_Txn_h rfl (by kernel_rfl) (Nat.le_of_ble_eq_true rfl) rfl ?_
  refine NLoop.mk [] [0, 1, 6, 7, 8] (fun m vs H => ∃ i, i ≤ l.length ∧ m = l.length - i ∧ (∀ x ∈ l.take i, p x = false) ∧ H = [.row .box .leaf [.list .leaf cs], .row .vrow (.agg 4) (l.map txnA ++ junk)] ∧ vs = [.own 1 0 l.length, .fn g [.ptr 0 0 0], .own 1 0 l.length, i64 l.length, i64 i]) rfl ?_ ?_
  · exact Canon.mk [] rfl ⟨l.length, 0, Nat.zero_le _, rfl, by simp, rfl, by simp [i64]⟩
  · rintro m vs H ⟨i, hi, rfl, ht, rfl, rfl⟩
    by_cases hil : i < l.length
    · have hc := hg _ (List.getElem_mem hil)
      obtain ⟨f1, f2⟩ := find_step hil ht
      have hx := getJ (f := txnA) (junk := junk) hil
      cases hp : p l[i] with
      | true =>
        rw [hp] at hc
        rw [f1 hp]
        refine ND.yes (by omega) ?_
        refine NP.mk (by (simp only [List.length_map, List.length_append, List.length_replicate, List.length_cons, List.length_nil, List.length_take, List.length_drop]; omega)) ?_
        refine NG.mk _ (by assumption) ?_
        refine NCall.subA [0] (hc) ?_
        exact NRet.mk [] rfl ⟨.refl _, rfl⟩
      | false =>
        rw [hp] at hc
        refine ND.yes (by omega) ?_
        refine NP.mk (by (simp only [List.length_map, List.length_append, List.length_replicate, List.length_cons, List.length_nil, List.length_take, List.length_drop]; omega)) ?_
        refine NG.mk _ (by assumption) ?_
        refine NCall.subA [0] (hc) ?_
        refine NW.i64 (by omega) (by omega) ?_
        exact Canon.mk [] rfl ⟨l.length - (i + 1), by omega, i + 1, by omega, rfl, f2 hp, rfl, rfl⟩
    · have : i = l.length := by omega
      subst this
      rw [List.take_length] at ht
      rw [find_none ht]
      refine ND.no (by omega) ?_
      exact NRet.mk [] rfl ⟨.refl _, rfl⟩
theorem find_ix {p : Txn → Bool} {l : List Txn} : (∃ (i : Nat) (h : i < l.length), ixI p l = i ∧ l.find? p = some l[i] ∧ l.eraseP p = l.take i ++ l.drop (i + 1)) ∨ (ixI p l = -1 ∧ l.find? p = none) := by
  induction l with
  | nil => exact .inr ⟨rfl, rfl⟩
  | cons x r ih =>
    cases hx : p x with
    | true => exact .inl ⟨0, by simp, by simp [ixI, List.findIdx?_cons, hx], by simp [List.find?_cons, hx], by simp [List.eraseP_cons, hx]⟩
    | false =>
      rcases ih with ⟨i, h, h1, h2, h3⟩ | ⟨h1, h2⟩
      · refine .inl ⟨i + 1, by simpa using h, ?_, by simp [hx, h2], by simp [hx, h3]⟩
        unfold ixI at h1 ⊢
        rw [List.findIdx?_cons, hx]
        cases hq : r.findIdx? p with
        | none => rw [hq] at h1; simp at h1 <;> omega
        | some k => rw [hq] at h1; simp at h1 ⊢; omega
      · refine .inr ⟨?_, by simp [hx, h2]⟩
        unfold ixI at h1 ⊢
        rw [List.findIdx?_cons, hx]
        cases hq : r.findIdx? p with
        | none => simp
        | some k => rw [hq] at h1; simp at h1 <;> omega
theorem takeN_some {n : Nat} {v : List Int} {l : List Txn} {t : Txn} (h : l.find? (ready v) = some t) : takeN (n + 1) v l = (t :: (takeN n (next v t) (l.eraseP (ready v))).1, (takeN n (next v t) (l.eraseP (ready v))).2) := by
  conv => lhs; unfold takeN
  rw [h]
theorem takeN_none {n : Nat} {v : List Int} {l : List Txn} (h : l.find? (ready v) = none) : takeN n v l = ([], v) := by
  cases n with
  | zero => rfl
  | succ n => unfold takeN; rw [h]
theorem take_walk (v : List Int) (l : List Txn) (hv : v.length ≤ 2 ^ 38) (hl : l.length ≤ 2 ^ 30) (hx : ∀ t ∈ l, smTxn t) : ACalls Try.prog Nm.order_Take [ints v, txnsA l] [] (.tup [txnsA (takeT v l).1, ints (takeT v l).2]) [] := by
  refine ACalls_of tab (dr_snd tab mixed) Nm.order_Take_h rfl (by kernel_rfl) (Nat.le_of_ble_eq_true rfl) rfl ?_
  have h1 := cloneT_walk (l.map txnA) (by simp; omega)
  have h2 := cloneV_list v (by omega)
  refine NCall.atA (ACalls.frame (h1) rfl _) ?_
  refine NCall.call (h2) rfl rfl ?_
  refine NLoop.mk [(7, .agg 4)] [2, 6, 7] (fun m vs H => ∃ (out left : List Txn) (w : List Int) (junk : List AV), m = left.length ∧ w.length ≤ 2 ^ 38 ∧ left.length ≤ 2 ^ 30 ∧ out.length + left.length = l.length ∧ (∀ t ∈ left, smTxn t) ∧
    (takeT v l).1 = out ++ (takeN left.length w left).1 ∧ (takeT v l).2 = (takeN left.length w left).2 ∧
    H = [.row .box .leaf [ints w], .row .vrow (.agg 4) (left.map txnA ++ junk), .row .vrow (.agg 4) (out.map txnA)] ∧ vs = [.ptr 0 0 0, .own 1 0 left.length, .own 2 0 out.length]) rfl ?_ ?_
  · exact Canon.mk [0, 1, 2] rfl ⟨l.length, [], l, v, [], rfl, hv, hl, by simp, hx, rfl, rfl, by simp [ints], by simp⟩
  · rintro m vs H ⟨out, left, w, junk, rfl, hw, hll, hsum, hxl, e1, e2, rfl, rfl⟩
    rw [e1, e2]
    have h3 := indexTo_walk Nm.order_Take_1 (w.map i64) left junk (ready w) (by omega) (fun t ht => takeF_walk w t hw (hxl t ht))
    rcases find_ix (p := ready w) (l := left) with ⟨i, hi, f1, f2, f3⟩ | ⟨f1, f2⟩
    · rw [f1] at h3
      have hm := List.getElem_mem hi
      have h4 := txnOnlyAll_walk left[i] (hxl _ hm)
      have h5 := next_walk w left[i] (by omega)
      have hx := getJ (f := txnA) (junk := junk) hi
      have h6 := deleteT_walk (left.map txnA) junk i (i + 1) (by omega) (by simp; omega) (by simp; omega)
      rw [List.length_map] at h6
      refine NCall.subA [0, 1] (h3) ?_
      refine ND.no (by omega) ?_
      refine NP.mk (by (simp only [List.length_map, List.length_append, List.length_replicate, List.length_cons, List.length_nil, List.length_take, List.length_drop]; omega)) ?_
      refine NG.mk _ (by assumption) ?_
      refine NW.i64 (by omega) (by omega) ?_
      refine NCall.subA [1] (h6) ?_
      refine NCall.call (h4) rfl rfl ?_
      refine NFz.own ?_
      refine NApp.endA (by simp) (by simp; omega) ?_
      refine NCall.call (h5) rfl rfl ?_
      have hL : (left.take i ++ left.drop (i + 1)).length = i + (left.length - (i + 1)) := by simp; omega
      have eT := takeN_some (n := (left.take i ++ left.drop (i + 1)).length) f2
      rw [f3, show (left.take i ++ left.drop (i + 1)).length + 1 = left.length by omega] at eT
      rw [eT] at e1 e2 ⊢
      have hn := next_len w left[i]
      refine Canon.mk [0, 1, 4] rfl ⟨(left.take i ++ left.drop (i + 1)).length, by omega, out ++ [left[i]], left.take i ++ left.drop (i + 1), next w left[i], (List.replicate (i + 1 - i) (.agg [i64 0, i64 0, .nils, .nils]) ++ junk), rfl, by omega, by omega, by simp; omega, fun t ht => ?_, by simp, rfl, ?_, ?_⟩
      · rcases List.mem_append.1 ht with h | h
        · exact hxl t (List.mem_of_mem_take h)
        · exact hxl t (List.mem_of_mem_drop h)
      · simp only [List.map_append, List.map_take, List.map_drop]; rfl
      · rw [hL]; simp
    · rw [f1] at h3
      rw [takeN_none f2, List.append_nil]
      refine NCall.subA [0, 1] (h3) ?_
      refine ND.yes (by omega) ?_
      refine NP.mk (by kernel_rfl) ?_
      apply NDr.any
      · intro H'
        exact ⟨rfl, rfl⟩
      apply NDr.rd [0]
      · intro fH TH
        exact ⟨rfl, rfl⟩
      apply NDr.any
      · intro H'
        exact ⟨rfl, rfl⟩
      apply NDr.pure
      · exact ⟨rfl, rfl⟩
      refine NP.mk (by kernel_rfl) ?_
      exact NRet.mk [] rfl (NFrz.mk (out.map txnA) (by simp) (by rw [List.drop_zero, List.take_of_length_le (by simp)]) ⟨.refl _, rfl⟩)
theorem chain14_walk (v : List Int) (l : List Txn) (hv : v.length ≤ 2 ^ 38) (hl : l.length ≤ 2 ^ 30) (hx : ∀ t ∈ l, smTxn t) : ACalls Try.prog Nm.ref14_Chain [ints v, txnsA l] [] (.bool (chain v l)) [] := by
  refine ACalls_of tab (dr_snd tab mixed) Nm.ref14_Chain_h rfl (by kernel_rfl) (Nat.le_of_ble_eq_true rfl) rfl ?_
  refine NLoop.mk [] [0, 1, 5] (fun m vs H => ∃ (i : Nat) (w : List Int), i ≤ l.length ∧ m = l.length - i ∧ w.length ≤ 2 ^ 38 ∧ chain v l = chain w (l.drop i) ∧ H = [] ∧ vs = [ints w, txnsA l, i64 i]) rfl ?_ ?_
  · exact Canon.mk [] rfl ⟨l.length, 0, v, Nat.zero_le _, rfl, hv, rfl, rfl, rfl⟩
  · rintro m vs H ⟨i, w, hi, rfl, hw, hc, rfl, rfl⟩
    rw [hc]
    by_cases hil : i < l.length
    · have hs := hx _ (List.getElem_mem hil)
      have h1 := ready14_walk w l[i] hw (by have := hs.2.1; omega) hs.1
      have h2 := next14_walk w l[i] (by omega)
      have hn := next_len w l[i]
      rw [chain_drop hil]
      cases hr : ready w l[i] with
      | true =>
        rw [hr] at h1
        rw [Bool.true_and]
        refine ND.yes (by (simp only [List.length_map, List.length_append, List.length_replicate, List.length_cons, List.length_nil, List.length_take, List.length_drop]; omega)) ?_
        refine NP.mk (by omega) ?_
        refine NG.mapN (by omega) ?_
        refine NCall.call (h1) rfl rfl ?_
        refine NP.mk (by omega) ?_
        refine NG.mapN (by omega) ?_
        refine NCall.call (h2) rfl rfl ?_
        refine NW.i64 (by omega) (by omega) ?_
        exact Canon.mk [] rfl ⟨l.length - (i + 1), by omega, i + 1, next w l[i], by omega, rfl, by omega, rfl, rfl, rfl⟩
      | false =>
        rw [hr] at h1
        rw [Bool.false_and]
        refine ND.yes (by (simp only [List.length_map, List.length_append, List.length_replicate, List.length_cons, List.length_nil, List.length_take, List.length_drop]; omega)) ?_
        refine NP.mk (by omega) ?_
        refine NG.mapN (by omega) ?_
        refine NCall.call (h1) rfl rfl ?_
        refine ND.no (by (simp only [List.length_map, List.length_append, List.length_replicate, List.length_cons, List.length_nil, List.length_take, List.length_drop]; omega)) ?_
        exact NRet.mk [] rfl ⟨.refl _, rfl⟩
    · rw [List.drop_eq_nil_of_le (by omega)]
      refine ND.no (by (simp only [List.length_map, List.length_append, List.length_replicate, List.length_cons, List.length_nil, List.length_take, List.length_drop]; omega)) ?_
      refine ND.yes (by (simp only [List.length_map, List.length_append, List.length_replicate, List.length_cons, List.length_nil, List.length_take, List.length_drop]; omega)) ?_
      exact NRet.mk [] rfl ⟨.refl _, rfl⟩
/-- What is left of a list of which some are gone. -/
def rem : List Txn → List Bool → List Txn
  | t :: l, g :: gs => if g then rem l gs else t :: rem l gs
  | _, _ => []
theorem rem_rep : ∀ l : List Txn, rem l (List.replicate l.length false) = l
  | [] => rfl
  | t :: l => by
    show rem (t :: l) (false :: List.replicate l.length false) = _
    unfold rem
    rw [if_neg (by simp), rem_rep l]
theorem rem_find {p : Txn → Bool} : ∀ {l : List Txn} {gs : List Bool} {i : Nat} {t : Txn}, gs.length = l.length → l[i]? = some t → (∀ (j : Nat) (x : Txn), j < i → l[j]? = some x → gs[j]? = some true ∨ p x = false) → gs[i]? = some false → p t = true →
    (rem l gs).find? p = some t ∧ (rem l gs).eraseP p = rem l (gs.set i true)
  | [], _, i, _, _, h, _, _, _ => by simp at h
  | y :: l, [], _, _, h, _, _, _, _ => by simp at h
  | y :: l, g :: gs, 0, t, hl, h, _, hg, hp => by
    simp only [List.getElem?_cons_zero, Option.some.injEq] at h hg
    subst h hg
    unfold rem
    simp [List.find?_cons, List.eraseP_cons, hp]
  | y :: l, g :: gs, i + 1, t, hl, h, hj, hg, hp => by
    simp only [List.getElem?_cons_succ] at h hg
    obtain ⟨h1, h2⟩ := rem_find (p := p) (l := l) (gs := gs) (i := i) (t := t) (by simpa using hl) h (fun j x hji hx => by
      have := hj (j + 1) x (by omega) (by simpa using hx)
      simpa using this) hg hp
    unfold rem
    rw [List.set_cons_succ]
    have h0 := hj 0 y (by omega) (by simp)
    cases g with
    | true => simp [rem, h1, h2]
    | false =>
      have : p y = false := by simpa using h0
      simp [rem, List.find?_cons, List.eraseP_cons, this, h1, h2]
theorem rem_none {p : Txn → Bool} : ∀ {l : List Txn} {gs : List Bool}, (∀ (j : Nat) (x : Txn), l[j]? = some x → gs[j]? = some true ∨ p x = false) → (rem l gs).find? p = none
  | [], _, _ => by simp [rem]
  | y :: l, [], _ => by simp [rem]
  | y :: l, g :: gs, h => by
    have ih := rem_none (p := p) (l := l) (gs := gs) fun j x hx => by simpa using h (j + 1) x (by simpa using hx)
    have h0 := h 0 y (by simp)
    unfold rem
    cases g with
    | true => simpa using ih
    | false =>
      have : p y = false := by simpa using h0
      simp [List.find?_cons, this]
      simpa using ih
theorem take14_walk (v : List Int) (l : List Txn) (hv : v.length ≤ 2 ^ 38) (hl : l.length ≤ 2 ^ 30) (hx : ∀ t ∈ l, smTxn t) : ACalls Try.prog Nm.ref14_Take [ints v, txnsA l] [] (.tup [txnsA (takeT v l).1, ints (takeT v l).2]) [] := by
  refine ACalls_of tab (dr_snd tab mixed) Nm.ref14_Take_h rfl (by kernel_rfl) (Nat.le_of_ble_eq_true rfl) rfl ?_
  refine NP.mk (by (simp; omega)) ?_
  refine NMk.own ?_
  refine NLoop.mk [(7, .agg 4)] [0, 1, 6, 7, 8] (fun m vs H => ∃ (out : List Txn) (gs : List Bool) (w : List Int) (i : Nat), i ≤ l.length ∧ m = (rem l gs).length * (l.length + 1) + (l.length - i) ∧ w.length ≤ 2 ^ 38 ∧ gs.length = l.length ∧ out.length + (rem l gs).length = l.length ∧
    (∀ (j : Nat) (x : Txn), j < i → l[j]? = some x → gs[j]? = some true ∨ ready w x = false) ∧
    (takeT v l).1 = out ++ (takeN (rem l gs).length w (rem l gs)).1 ∧ (takeT v l).2 = (takeN (rem l gs).length w (rem l gs)).2 ∧
    H = [.row .row .leaf (gs.map AV.bool), .row .vrow (.agg 4) (out.map txnA)] ∧ vs = [ints w, txnsA l, .own 0 0 l.length, .own 1 0 out.length, i64 i]) rfl ?_ ?_
  · exact Canon.mk [0, 1] rfl ⟨_, [], List.replicate l.length false, v, 0, Nat.zero_le _, rfl, hv, by simp, by simp [rem_rep], by simp, by rw [rem_rep]; rfl, by rw [rem_rep]; rfl, by simp, by simp [ints, txnsA, i64]⟩
  · rintro m vs H ⟨out, gs, w, i, hi, rfl, hw, hgl, hsum, hj, e1, e2, rfl, rfl⟩
    rw [e1, e2]
    by_cases hil : i < l.length
    · have hs := hx _ (List.getElem_mem hil)
      have h1 := ready14_walk w l[i] hw (by have := hs.2.1; omega) hs.1
      have h2 := next14_walk w l[i] (by omega)
      have hn := next_len w l[i]
      have hig : i < gs.length := by omega
      have hli := List.getElem?_eq_getElem hil
      cases hg : gs[i] with
      | true =>
        refine ND.yes (by (simp only [List.length_map, List.length_append, List.length_replicate, List.length_cons, List.length_nil, List.length_take, List.length_drop]; omega)) ?_
        refine NP.mk (by (simp only [List.length_map, List.length_append, List.length_replicate, List.length_cons, List.length_nil, List.length_take, List.length_drop]; omega)) ?_
        refine NG.mapN (by omega) ?_
        refine NB.yes (by simp [*]) ?_
        refine NB.yes (by simp [*]) ?_
        refine NB.yes (by simp [*]) ?_
        refine NB.yes (by simp [*]) ?_
        refine NB.yes (by simp [*]) ?_
        refine NB.yes (by simp [*]) ?_
        refine NB.yes (by simp [*]) ?_
        refine NB.yes (by simp [*]) ?_
        refine NW.i64 (by omega) (by omega) ?_
        refine Canon.mk [0, 1] rfl ⟨_, ?_, out, gs, w, i + 1, by omega, rfl, hw, hgl, hsum, fun j x hji hx => ?_, rfl, rfl, rfl, rfl⟩
        · omega
        · rcases Nat.lt_or_ge j i with h | h
          · exact hj j x h hx
          · rw [show j = i by omega, List.getElem?_eq_getElem hig, hg]; exact .inl rfl
      | false =>
        have hg' : gs[i]? = some false := by rw [List.getElem?_eq_getElem hig, hg]
        cases hr : ready w l[i] with
        | true =>
          rw [hr] at h1
          obtain ⟨f2, f3⟩ := rem_find hgl hli hj hg' hr
          refine ND.yes (by (simp only [List.length_map, List.length_append, List.length_replicate, List.length_cons, List.length_nil, List.length_take, List.length_drop]; omega)) ?_
          refine NP.mk (by (simp only [List.length_map, List.length_append, List.length_replicate, List.length_cons, List.length_nil, List.length_take, List.length_drop]; omega)) ?_
          refine NG.mapN (by omega) ?_
          refine NB.no (by simp [*]) ?_
          refine NB.no (by simp [*]) ?_
          refine NB.no (by simp [*]) ?_
          refine NB.no (by simp [*]) ?_
          refine NP.mk (by omega) ?_
          refine NG.mapN (by omega) ?_
          refine NB.no (by simp [*]) ?_
          refine NB.no (by simp [*]) ?_
          refine NCall.call (h1) rfl rfl ?_
          refine NB.no (by simp [*]) ?_
          refine NB.no (by simp [*]) ?_
          refine NP.mk (by (simp only [List.length_map, List.length_append, List.length_replicate, List.length_cons, List.length_nil, List.length_take, List.length_drop]; omega)) ?_
          refine NG.mapN (by omega) ?_
          refine NP.mk (by omega) ?_
          refine NG.mapN (by omega) ?_
          refine NFz.own ?_
          refine NApp.endA (by simp) (by simp; omega) ?_
          refine NP.mk (by omega) ?_
          refine NG.mapN (by omega) ?_
          refine NCall.call (h2) rfl rfl ?_
          have hpl := (erase_perm f2).length_eq
          rw [f3, List.length_cons] at hpl
          have eT := takeN_some (n := (rem l (gs.set i true)).length) f2
          rw [f3, ← hpl] at eT
          have hmul : ((rem l (gs.set i true)).length + 1) * (l.length + 1) = (rem l (gs.set i true)).length * (l.length + 1) + (l.length + 1) := Nat.succ_mul _ _
          rw [← hpl] at hmul
          refine Canon.mk [0, 2] rfl ⟨_, ?_, out ++ [l[i]], gs.set i true, next w l[i], 0, Nat.zero_le _, rfl, by omega, by simpa using hgl, by simp; omega, by simp, by rw [eT, List.append_assoc]; rfl, by rw [eT], ?_, ?_⟩
          · omega
          · rw [Nat.zero_add, Int.toNat_natCast, List.map_append, List.map_set]; rfl
          · simp only [List.length_append, List.length_map]; rfl
        | false =>
          rw [hr] at h1
          refine ND.yes (by (simp only [List.length_map, List.length_append, List.length_replicate, List.length_cons, List.length_nil, List.length_take, List.length_drop]; omega)) ?_
          refine NP.mk (by (simp only [List.length_map, List.length_append, List.length_replicate, List.length_cons, List.length_nil, List.length_take, List.length_drop]; omega)) ?_
          refine NG.mapN (by omega) ?_
          refine NB.no (by simp [*]) ?_
          refine NB.no (by simp [*]) ?_
          refine NB.no (by simp [*]) ?_
          refine NB.no (by simp [*]) ?_
          refine NP.mk (by omega) ?_
          refine NG.mapN (by omega) ?_
          refine NB.no (by simp [*]) ?_
          refine NB.no (by simp [*]) ?_
          refine NCall.call (h1) rfl rfl ?_
          refine NB.no (by simp [*]) ?_
          refine NB.no (by simp [*]) ?_
          refine NW.i64 (by omega) (by omega) ?_
          refine Canon.mk [0, 1] rfl ⟨_, ?_, out, gs, w, i + 1, by omega, rfl, hw, hgl, hsum, fun j x hji hx => ?_, rfl, rfl, rfl, rfl⟩
          · omega
          · rcases Nat.lt_or_ge j i with h | h
            · exact hj j x h hx
            · have e : j = i := by omega
              subst e
              rw [hli] at hx
              exact .inr (by rw [← Option.some.inj hx]; exact hr)
    · rw [takeN_none (rem_none fun j x hx => hj j x (by have := (List.getElem?_eq_some_iff.1 hx).1; omega) hx), List.append_nil]
      refine ND.no (by (simp only [List.length_map, List.length_append, List.length_replicate, List.length_cons, List.length_nil, List.length_take, List.length_drop]; omega)) ?_
      exact NRet.mk [] rfl (NFrz.mk (out.map txnA) (by simp) (by rw [List.drop_zero, List.take_of_length_le (by simp)]) ⟨.refl _, rfl⟩)
theorem twice14_walk (l : List Txn) (hl : l.length ≤ 2 ^ 30) : ACalls Try.prog Nm.ref14_Twice [txnsA l] [] (.bool (twice l)) [] := by
  refine ACalls_of tab (dr_snd tab mixed) Nm.ref14_Twice_h rfl (by kernel_rfl) (Nat.le_of_ble_eq_true rfl) rfl ?_
  refine NLoop.mk [] [0, 3] (fun m vs H => ∃ (i : Nat), i ≤ l.length ∧ m = l.length - i ∧ ((l.take i).map dotOf).Nodup ∧ H = [] ∧ vs = [txnsA l, i64 i]) rfl ?_ ?_
  · exact Canon.mk [] rfl ⟨l.length, 0, Nat.zero_le _, rfl, by simp, rfl, rfl⟩
  · rintro m vs H ⟨i, hi, rfl, hnd, rfl, rfl⟩
    by_cases hil : i < l.length
    · refine ND.yes (by (simp only [List.length_map, List.length_append, List.length_replicate, List.length_cons, List.length_nil, List.length_take, List.length_drop]; omega)) ?_
      refine NLoop.mk [] [0, 3, 4] (fun m vs H => ∃ (k : Nat), k ≤ i ∧ m = i - k ∧ (∀ (j : Nat) (x : Txn), j < k → l[j]? = some x → dotOf x ≠ dotOf l[i]) ∧ H = [] ∧ vs = [txnsA l, i64 i, i64 k]) rfl ?_ ?_
      · exact Canon.mk [] rfl ⟨i, 0, Nat.zero_le _, rfl, by simp, rfl, rfl⟩
      · rintro m vs H ⟨k, hk, rfl, hne, rfl, rfl⟩
        by_cases hki : k < i
        · have hkl : k < l.length := by omega
          have fin : dotOf l[k] ≠ dotOf l[i] → ∀ (j : Nat) (x : Txn), j < k + 1 → l[j]? = some x → dotOf x ≠ dotOf l[i] := fun hd j x hj hx => by
            rcases Nat.lt_or_ge j k with h | h
            · exact hne j x h hx
            · have e : j = k := by omega
              subst e
              rw [List.getElem?_eq_getElem hkl] at hx
              rw [← Option.some.inj hx]; exact hd
          by_cases h1 : l[i].node = l[k].node
          · by_cases h2 : l[i].seq = l[k].seq
            · have : twice l = true := by
                unfold twice
                rw [decide_eq_false fun hn => ?_]
                · rfl
                · have := List.pairwise_iff_getElem.1 hn k i (by simpa using hkl) (by simpa using hil) hki
                  simp only [List.getElem_map] at this
                  exact this (Prod.ext h1.symm h2.symm)
              rw [this]
              refine ND.yes (by omega) ?_
              refine NP.mk (by kernel_rfl) ?_
              apply NDr.pure
              · exact ⟨rfl, rfl⟩
              apply NDr.pure
              · exact ⟨rfl, rfl⟩
              apply NDr.pure
              · refine NP.mk (by omega) ?_
                refine NG.mapN (by omega) ?_
                exact ⟨rfl, rfl⟩
              apply NDr.pure
              · exact ⟨rfl, rfl⟩
              apply NDr.pure
              · exact ⟨rfl, rfl⟩
              apply NDr.pure
              · exact ⟨rfl, rfl⟩
              apply NDr.pure
              · exact ⟨rfl, rfl⟩
              apply NDr.pure
              · refine NP.mk (by omega) ?_
                refine NG.mapN (by omega) ?_
                exact ⟨rfl, rfl⟩
              apply NDr.pure
              · exact ⟨rfl, rfl⟩
              apply NDr.pure
              · exact ⟨rfl, rfl⟩
              apply NDr.pure
              · refine ND.yes (by omega) ?_
                exact ⟨rfl, rfl⟩
              apply NDr.pure
              · exact ⟨rfl, rfl⟩
              apply NDr.pure
              · exact ⟨rfl, rfl⟩
              apply NDr.pure
              · exact ⟨rfl, rfl⟩
              apply NDr.pure
              · refine NP.mk (by omega) ?_
                refine NG.mapN (by omega) ?_
                exact ⟨rfl, rfl⟩
              apply NDr.pure
              · exact ⟨rfl, rfl⟩
              apply NDr.pure
              · exact ⟨rfl, rfl⟩
              apply NDr.pure
              · exact ⟨rfl, rfl⟩
              apply NDr.pure
              · exact ⟨rfl, rfl⟩
              apply NDr.pure
              · refine NP.mk (by omega) ?_
                refine NG.mapN (by omega) ?_
                exact ⟨rfl, rfl⟩
              apply NDr.pure
              · exact ⟨rfl, rfl⟩
              apply NDr.pure
              · exact ⟨rfl, rfl⟩
              apply NDr.pure
              · refine ND.yes (by omega) ?_
                exact ⟨rfl, rfl⟩
              apply NDr.pure
              · exact ⟨rfl, rfl⟩
              refine NP.mk (by kernel_rfl) ?_
              exact NRet.mk [] rfl ⟨.refl _, rfl⟩
            · refine ND.yes (by omega) ?_
              refine NP.mk (by kernel_rfl) ?_
              apply NDr.pure
              · exact ⟨rfl, rfl⟩
              apply NDr.pure
              · exact ⟨rfl, rfl⟩
              apply NDr.pure
              · refine NP.mk (by omega) ?_
                refine NG.mapN (by omega) ?_
                exact ⟨rfl, rfl⟩
              apply NDr.pure
              · exact ⟨rfl, rfl⟩
              apply NDr.pure
              · exact ⟨rfl, rfl⟩
              apply NDr.pure
              · exact ⟨rfl, rfl⟩
              apply NDr.pure
              · exact ⟨rfl, rfl⟩
              apply NDr.pure
              · refine NP.mk (by omega) ?_
                refine NG.mapN (by omega) ?_
                exact ⟨rfl, rfl⟩
              apply NDr.pure
              · exact ⟨rfl, rfl⟩
              apply NDr.pure
              · exact ⟨rfl, rfl⟩
              apply NDr.pure
              · refine ND.yes (by omega) ?_
                exact ⟨rfl, rfl⟩
              apply NDr.pure
              · exact ⟨rfl, rfl⟩
              apply NDr.pure
              · exact ⟨rfl, rfl⟩
              apply NDr.pure
              · exact ⟨rfl, rfl⟩
              apply NDr.pure
              · refine NP.mk (by omega) ?_
                refine NG.mapN (by omega) ?_
                exact ⟨rfl, rfl⟩
              apply NDr.pure
              · exact ⟨rfl, rfl⟩
              apply NDr.pure
              · exact ⟨rfl, rfl⟩
              apply NDr.pure
              · exact ⟨rfl, rfl⟩
              apply NDr.pure
              · exact ⟨rfl, rfl⟩
              apply NDr.pure
              · refine NP.mk (by omega) ?_
                refine NG.mapN (by omega) ?_
                exact ⟨rfl, rfl⟩
              apply NDr.pure
              · exact ⟨rfl, rfl⟩
              apply NDr.pure
              · exact ⟨rfl, rfl⟩
              apply NDr.pure
              · refine ND.no (by omega) ?_
                exact ⟨rfl, rfl⟩
              apply NDr.pure
              · exact ⟨rfl, rfl⟩
              refine NP.mk (by kernel_rfl) ?_
              refine NW.i64 (by omega) (by omega) ?_
              exact Canon.mk [] rfl ⟨i - (k + 1), by omega, k + 1, by omega, rfl, fin (fun e => h2 (congrArg Prod.snd e).symm), rfl, rfl⟩
          · refine ND.yes (by omega) ?_
            refine NP.mk (by kernel_rfl) ?_
            apply NDr.pure
            · exact ⟨rfl, rfl⟩
            apply NDr.pure
            · exact ⟨rfl, rfl⟩
            apply NDr.pure
            · refine NP.mk (by omega) ?_
              refine NG.mapN (by omega) ?_
              exact ⟨rfl, rfl⟩
            apply NDr.pure
            · exact ⟨rfl, rfl⟩
            apply NDr.pure
            · exact ⟨rfl, rfl⟩
            apply NDr.pure
            · exact ⟨rfl, rfl⟩
            apply NDr.pure
            · exact ⟨rfl, rfl⟩
            apply NDr.pure
            · refine NP.mk (by omega) ?_
              refine NG.mapN (by omega) ?_
              exact ⟨rfl, rfl⟩
            apply NDr.pure
            · exact ⟨rfl, rfl⟩
            apply NDr.pure
            · exact ⟨rfl, rfl⟩
            apply NDr.pure
            · refine ND.no (by omega) ?_
              exact ⟨rfl, rfl⟩
            apply NDr.pure
            · exact ⟨rfl, rfl⟩
            apply NDr.pure
            · exact ⟨rfl, rfl⟩
            refine NP.mk (by kernel_rfl) ?_
            refine NW.i64 (by omega) (by omega) ?_
            exact Canon.mk [] rfl ⟨i - (k + 1), by omega, k + 1, by omega, rfl, fin (fun e => h1 (congrArg Prod.fst e).symm), rfl, rfl⟩
        · have : k = i := by omega
          subst this
          refine ND.no (by omega) ?_
          refine NW.i64 (by omega) (by omega) ?_
          refine Canon.mk [] rfl ⟨l.length - (k + 1), by omega, k + 1, by omega, rfl, ?_, rfl, rfl⟩
          rw [snocMap dotOf l hil, List.nodup_append]
          refine ⟨hnd, by simp, fun a ha b hb => ?_⟩
          rw [List.mem_singleton.1 hb]
          obtain ⟨x, hx, rfl⟩ := List.mem_map.1 ha
          obtain ⟨j, hj, rfl⟩ := List.mem_take_iff_getElem.1 hx
          exact hne j _ (by omega) (List.getElem?_eq_getElem (by omega))
    · have : i = l.length := by omega
      subst this
      rw [List.take_length] at hnd
      rw [show twice l = false by unfold twice; rw [decide_eq_true hnd]; rfl]
      refine ND.no (by (simp only [List.length_map, List.length_append, List.length_replicate, List.length_cons, List.length_nil, List.length_take, List.length_drop]; omega)) ?_
      exact NRet.mk [] rfl ⟨.refl _, rfl⟩
end Go.Bv
