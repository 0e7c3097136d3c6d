/- Part of the lift: an abstract walk of the program's code, proved sound, and what it shows of this program. -/
import Derived.Test.YtjgmoglhbdgmpaaGreatPart11
import Derived.Test.YtjgmoglhbdgmpaaGreatPart9
import Derived.Test.YtjgmoglhbdgmpaaGreatPart8
import Derived.Test.YtjgmoglhbdgmpaaGreatPart7
namespace Go.Bv
set_option linter.unusedSimpArgs false
set_option linter.unusedVariables false
set_option maxHeartbeats 4000000
set_option maxRecDepth 20000
open Go Go.Proofs
theorem sortFunc_walk (l : List Item) (hl : l.length ≤ 60000) : ACalls Tryz.prog Nm.slices_SortFunc_api_Item_api_Item [.own 0 0 l.length, .fn Nm.item_compare []] [.row .vrow (.agg 8) (l.map itemA)] (.tup []) [.row .vrow (.agg 8) ((isort l).map itemA)] := by
  refine ACalls_of tab (dr_snd tab mixed) Nm.slices_SortFunc_api_Item_api_Item_h rfl (by kernel_rfl) (Nat.le_of_ble_eq_true rfl) rfl ?_
  have h1 := len_walk l.length (by omega)
  have hb := (Go.Sort.bitsLen_le_iff l.length 16).2 (by omega)
  have h2 := pdq_walk l.length l 0 l.length (Go.Sort.bitsLen l.length) (by omega) (by omega) (Nat.le_refl _) hl (by omega) (Or.inl rfl)
  rw [pdq_isort] at h2
  have e : IntKind.wrap .u64 (l.length : Int) = (l.length : Int) := by rw [wrap_u64]; omega
  refine NW.mk _ rfl ?_
  rw [(e)]
  refine NCall.call (h1) rfl rfl ?_
  refine NCall.atA (h2) ?_
  exact NRet.mk [] rfl ⟨.refl _, rfl⟩
theorem isort_len (l : List Item) : (isort l).length = l.length := (isort_perm l).length_eq
theorem norm_len (l : List Item) : (norm l).length ≤ l.length := by
  unfold norm
  rw [← isort_len l]
  exact (nubF_sub _ _).length_le
theorem norm_own (l : List Item) (hl : l.length ≤ 60000) : ACalls Tryz.prog Nm.item_Norm [itemsA l] [] (.own 0 0 (norm l).length) [.row .vrow (.agg 8) ((norm l).map itemA ++ List.replicate (l.length - (norm l).length) zI)] := by
  refine ACalls_of tab (dr_snd tab mixed) Nm.item_Norm_h rfl (by kernel_rfl) (Nat.le_of_ble_eq_true rfl) rfl ?_
  have k1 := cloneI_walk l (by omega)
  have k2 := sortFunc_walk l hl
  have k3 := deleteB_walk Nm.item_Norm_1 hadI (isort l) (by rw [isort_len]; omega) (fun k x => normF_walk k x)
  rw [keepD_nub, isort_len] at k3
  rw [show nubF [] (isort l) = norm l from rfl] at k3
  refine NCall.atA (ACalls.frame (k1) rfl _) ?_
  refine NCall.atA (k2) ?_
  refine NCall.subA [0, 2, 1] (k3) ?_
  exact NRet.mk [0] rfl ⟨.refl _, rfl⟩
/-- A row that holds a list and more, as the list. -/
theorem norm_list (l : List Item) (hl : l.length ≤ 60000) : ACalls Tryz.prog Nm.item_Norm [itemsA l] [] (itemsA (norm l)) [] :=
  (norm_own l hl).drop (.val (.own trivial rfl (by simp) (by simp) (by rw [List.drop_zero, List.take_left' (by simp)])) rfl (fun _ => by simp [itemsA]) (fun _ => by simp [itemsA]))
theorem without_len (l : List Item) (D : List Dot) : (without l D).length ≤ l.length := List.length_filter_le _ _
theorem doE_len (n s : Int) (l : List Item) (e : Eff) : (doE n s l e).length ≤ l.length + 1 := by
  have h1 := norm_len (rawE n s l e)
  have h2 := without_len l e.drops
  unfold doE
  refine Nat.le_trans h1 ?_
  unfold rawE madeL
  rw [List.length_append]
  split <;> simp only [List.length_nil, List.length_cons] <;> omega
theorem do_walk (l : List Item) (n s : Int) (es : List Eff) (hl : l.length ≤ 50000) (he : es.length ≤ 5000) (hx : ∀ e ∈ es, smEff e) : ACalls Tryz.prog Nm.eff_Do [itemsA l, i64 n, i64 s, effsA es] [] (itemsA (doL n s l es)) [] := by
  refine ACalls_of tab (dr_snd tab mixed) Nm.eff_Do_h rfl (by kernel_rfl) (Nat.le_of_ble_eq_true rfl) rfl ?_
  have k1 := cloneI_walk l (by omega)
  refine NCall.atA (ACalls.frame (k1) rfl _) ?_
  refine NLoop.mk [] [1, 2, 9, 14, 15, 16] (fun m vs H => ∃ (i : Nat) (junk : List AV), i ≤ es.length ∧ m = es.length - i ∧ (doL n s l (es.take i)).length ≤ l.length + i ∧ H = [.row .vrow (.agg 8) ((doL n s l (es.take i)).map itemA ++ junk)] ∧
    vs = [i64 n, i64 s, .own 0 0 (doL n s l (es.take i)).length, effsA es, i64 es.length, i64 i]) rfl ?_ ?_
  · exact Canon.mk [0] rfl ⟨es.length, 0, [], Nat.zero_le _, rfl, Nat.le_refl _, by rw [List.append_nil]; rfl, by rw [List.length_map]; rfl⟩
  rintro m vs H ⟨i, junk, hi, rfl, hlen, rfl, rfl⟩
  by_cases hil : i < es.length
  · have hs := hx _ (List.getElem_mem hil)
    have hstep : doL n s l (es.take (i + 1)) = doE n s (doL n s l (es.take i)) es[i] := by
      unfold doL
      rw [List.take_succ_eq_append_getElem hil, List.foldl_append]; rfl
    have hlen2 := doE_len n s (doL n s l (es.take i)) es[i]
    rw [← hstep] at hlen2
    have hw := without_len (doL n s l (es.take i)) es[i].drops
    have k2 := without_own (doL n s l (es.take i)) es[i].drops (by omega) hs.2.2.2
    have k3 := made_walk n s es[i]
    have k4 := norm_own (rawE n s (doL n s l (es.take i)) es[i]) (by
      unfold rawE madeL
      rw [List.length_append]
      split <;> simp only [List.length_nil, List.length_cons] <;> omega)
    rw [show norm (rawE n s (doL n s l (es.take i)) es[i]) = doL n s l (es.take (i + 1)) from hstep.symm] at k4
    have htk : ∀ (w : List Item) (X : List AV), List.take w.length (w.map itemA ++ X) = w.map itemA := fun w X => List.take_left' (by simp)
    obtain ⟨cur, hcur⟩ : ∃ c, c = doL n s l (es.take i) := ⟨_, rfl⟩
    rw [← hcur] at k2 k4 hw hlen ⊢
    unfold rawE madeL at k4
    obtain ⟨nxt, hnxt⟩ : ∃ c, c = doL n s l (es.take (i + 1)) := ⟨_, rfl⟩
    rw [← hnxt] at k4 hlen2
    rw [← hcur] at hlen2
    generalize without cur es[i].drops = w at *
    by_cases hk : es[i].kind = 0
    · rw [if_pos hk, List.append_nil] at k4
      refine ND.yes (by omega) ?_
      refine NP.mk (by omega) ?_
      refine NG.mapN (by omega) ?_
      refine NCall.roA [0] ?_
      rw [(htk cur junk)]
      refine NCall.atA (ACalls.frame (k2) rfl _) ?_
      refine ND.yes (by omega) ?_
      refine NCall.roA [2] ?_
      rw [(htk w _)]
      refine NCall.atA (ACalls.frame (k4) rfl _) ?_
      refine NW.i64 (by omega) (by omega) ?_
      exact Canon.mk [3] rfl ⟨es.length - (i + 1), by omega, i + 1, List.replicate (w.length - nxt.length) zI, by omega, rfl, by rw [← hnxt]; omega, by subst hnxt; rfl, by subst hnxt; rfl⟩
    · rw [if_neg hk] at k4
      obtain ⟨x, hxe⟩ : ∃ x, x = made n s es[i] := ⟨_, rfl⟩
      rw [← hxe] at k4 k3
      rw [show itemsA (w ++ [x]) = .list (.agg 8) (w.map itemA ++ [itemA x]) by simp [itemsA]] at k4
      by_cases hwe : cur.length - w.length = 0
      · rw [hwe, List.replicate_zero, List.append_nil] at k2
        refine ND.yes (by omega) ?_
        refine NP.mk (by omega) ?_
        refine NG.mapN (by omega) ?_
        refine NCall.roA [0] ?_
        rw [(htk cur junk)]
        refine NCall.atA (ACalls.frame (k2) rfl _) ?_
        refine ND.no (by omega) ?_
        refine NCall.call (k3) rfl rfl ?_
        refine NFz.own ?_
        refine NApp.endA (by simp) (by simp; omega) ?_
        refine NCall.roA [3] ?_
        rw [(tl0 _)]
        refine NCall.atA (ACalls.frame (k4) rfl _) ?_
        refine NW.i64 (by omega) (by omega) ?_
        exact Canon.mk [4] rfl ⟨es.length - (i + 1), by omega, i + 1, List.replicate ((w ++ [x]).length - nxt.length) zI, by omega, rfl, by rw [← hnxt]; omega, by subst hnxt; rfl, by subst hnxt; rfl⟩
      · obtain ⟨c, hc⟩ : ∃ c, cur.length - w.length = c + 1 := ⟨cur.length - w.length - 1, by omega⟩
        rw [hc] at k2
        have htk2 : List.take (w.length + 1) (w.map itemA ++ itemA x :: List.replicate c zI) = w.map itemA ++ [itemA x] := by
          rw [show w.map itemA ++ itemA x :: List.replicate c zI = (w.map itemA ++ [itemA x]) ++ List.replicate c zI by simp]
          exact List.take_left' (by simp)
        refine ND.yes (by omega) ?_
        refine NP.mk (by omega) ?_
        refine NG.mapN (by omega) ?_
        refine NCall.roA [0] ?_
        rw [(htk cur junk)]
        refine NCall.atA (ACalls.frame (k2) rfl _) ?_
        refine ND.no (by omega) ?_
        refine NCall.call (k3) rfl rfl ?_
        refine NFz.own ?_
        refine NApp.inA (es' := w.map itemA ++ itemA x :: List.replicate c zI) (by simp) ?_ rfl ?_ rfl
        rotate_left
        · have hd : List.drop (0 + w.length + 1) (w.map itemA ++ List.replicate (c + 1) zI) = List.replicate c zI := by
            rw [List.drop_append, List.drop_eq_nil_of_le (by simp), List.nil_append, List.length_map, show 0 + w.length + 1 - w.length = 1 by omega]; rfl
          show List.take (0 + w.length) (w.map itemA ++ List.replicate (c + 1) zI) ++ ([itemA x] ++ List.drop (0 + w.length + 1) (w.map itemA ++ List.replicate (c + 1) zI)) = _
          rw [hd, Nat.zero_add, List.take_left' (by simp)]; rfl
        refine NCall.roA [2] ?_
        rw [(htk2)]
        refine NCall.atA (ACalls.frame (k4) rfl _) ?_
        refine NW.i64 (by omega) (by omega) ?_
        exact Canon.mk [3] rfl ⟨es.length - (i + 1), by omega, i + 1, List.replicate ((w ++ [x]).length - nxt.length) zI, by omega, rfl, by rw [← hnxt]; omega, by subst hnxt; rfl, by subst hnxt; rfl⟩
  · have : i = es.length := by omega
    subst this
    rw [List.take_length]
    refine ND.no (by omega) ?_
    exact NRet.mk [] rfl (NFrz.mk ((doL n s l es).map itemA) (by simp) (by rw [List.drop_zero, List.take_left' (by simp)]) ⟨.refl _, rfl⟩)
end Go.Bv
namespace Go.Bv
set_option linter.unusedSimpArgs false
set_option linter.unusedVariables false
set_option maxHeartbeats 4000000
open Go Go.Proofs
theorem equalV_walk (a b : List Int) (ha : a.length ≤ 2 ^ 40) : ACalls Tryz.prog Nm.slices_Equal_api_Vec_int [ints a, ints b] [] (.bool (decide (a = b))) [] := by
  refine ACalls_of tab (dr_snd tab mixed) Nm.slices_Equal_api_Vec_int_h rfl (by kernel_rfl) (Nat.le_of_ble_eq_true rfl) rfl ?_
  by_cases hl : a.length = b.length
  · refine ND.yes (by (simp only [List.length_map, List.length_append, List.length_replicate, List.length_cons, List.length_nil, List.length_take, List.length_drop]; omega)) ?_
    refine NLoop.mk [] [0, 1, 11, 12, 13] (fun m vs H => ∃ i, i ≤ a.length ∧ m = a.length - i ∧ a.take i = b.take i ∧ H = [] ∧ vs = [ints a, ints b, ints a, i64 a.length, i64 i]) rfl ?_ ?_
    · exact Canon.mk [] rfl ⟨a.length, 0, Nat.zero_le _, rfl, rfl, rfl, by simp [ints, i64]⟩
    · rintro m vs H ⟨i, hi, rfl, ht, rfl, rfl⟩
      by_cases hil : i < a.length
      · have hib : i < b.length := by omega
        by_cases he : a[i] = b[i]
        · refine ND.yes (by omega) ?_
          refine NP.mk (by kernel_rfl) ?_
          apply NDr.pure
          · exact ⟨rfl, rfl⟩
          apply NDr.pure
          · exact ⟨rfl, rfl⟩
          apply NDr.pure
          · refine NP.mk (by omega) ?_
            refine NG.mapN (by omega) ?_
            exact ⟨rfl, rfl⟩
          apply NDr.pure
          · exact ⟨rfl, rfl⟩
          apply NDr.pure
          · exact ⟨rfl, rfl⟩
          apply NDr.pure
          · exact ⟨rfl, rfl⟩
          apply NDr.pure
          · refine NP.mk (by omega) ?_
            refine NG.mapN (by omega) ?_
            exact ⟨rfl, rfl⟩
          apply NDr.pure
          · exact ⟨rfl, rfl⟩
          apply NDr.pure
          · refine ND.yes (by omega) ?_
            exact ⟨rfl, rfl⟩
          refine NP.mk (by kernel_rfl) ?_
          refine NW.i64 (by omega) (by omega) ?_
          exact Canon.mk [] rfl ⟨a.length - (i + 1), by omega, i + 1, by omega, rfl, take_eq_next ht hil hib he, rfl, rfl⟩
        · rw [decide_eq_false fun e => he (by simp only [e])]
          refine ND.yes (by omega) ?_
          refine NP.mk (by kernel_rfl) ?_
          apply NDr.pure
          · exact ⟨rfl, rfl⟩
          apply NDr.pure
          · exact ⟨rfl, rfl⟩
          apply NDr.pure
          · refine NP.mk (by omega) ?_
            refine NG.mapN (by omega) ?_
            exact ⟨rfl, rfl⟩
          apply NDr.pure
          · exact ⟨rfl, rfl⟩
          apply NDr.pure
          · exact ⟨rfl, rfl⟩
          apply NDr.pure
          · exact ⟨rfl, rfl⟩
          apply NDr.pure
          · refine NP.mk (by omega) ?_
            refine NG.mapN (by omega) ?_
            exact ⟨rfl, rfl⟩
          apply NDr.pure
          · exact ⟨rfl, rfl⟩
          apply NDr.pure
          · refine ND.no (by omega) ?_
            exact ⟨rfl, rfl⟩
          refine NP.mk (by kernel_rfl) ?_
          exact NRet.mk [] rfl ⟨.refl _, rfl⟩
      · have : i = a.length := by omega
        subst this
        rw [decide_eq_true (take_eq_end hl ht)]
        refine ND.no (by omega) ?_
        exact NRet.mk [] rfl ⟨.refl _, rfl⟩
  · rw [decide_eq_false fun e => hl (by rw [e])]
    refine ND.no (by (simp only [List.length_map, List.length_append, List.length_replicate, List.length_cons, List.length_nil, List.length_take, List.length_drop]; omega)) ?_
    exact NRet.mk [] rfl ⟨.refl _, rfl⟩
theorem formF_walk (n : Int) : ACalls Tryz.prog Nm.txn_Formed_1 [i64 n] [] (.bool (decide (1073741824 < n))) [] := by
  refine ACalls_of tab (dr_snd tab mixed) Nm.txn_Formed_1_h rfl (by kernel_rfl) (Nat.le_of_ble_eq_true rfl) rfl ?_
  refine NB.dec (fun hk1 => ?_) (fun hk1 => ?_)
  · refine NRet.boolE (b := true) ?_ (NRet.mk [] rfl ⟨.refl _, rfl⟩)
    (simp only [decide_eq_true_eq, decide_eq_false_iff_not, eq_comm (a := true), eq_comm (a := false)]; omega)
  refine NRet.boolE (b := false) ?_ (NRet.mk [] rfl ⟨.refl _, rfl⟩)
  (simp only [decide_eq_true_eq, decide_eq_false_iff_not, eq_comm (a := true), eq_comm (a := false)]; omega)
theorem indexV_walk (g : Nat) (l : List Int) (p : Int → Bool) (hl : l.length ≤ 2 ^ 40) (hg : ∀ d ∈ l, ACalls Tryz.prog g [i64 d] [] (.bool (p d)) []) :
    ACalls Tryz.prog Nm.slices_IndexFunc_api_Vec_int [ints l, .fn g []] [] (i64 (ixI p l)) [] := by
  refine ACalls_of tab (dr_snd tab mixed) Nm.slices_IndexFunc_api_Vec_int_h rfl (by kernel_rfl) (Nat.le_of_ble_eq_true rfl) rfl ?_
  refine NLoop.mk [] [0, 1, 6, 7, 8] (fun m vs H => ∃ i, i ≤ l.length ∧ m = l.length - i ∧ (∀ x ∈ l.take i, p x = false) ∧ H = [] ∧ vs = [ints l, .fn g [], ints l, i64 l.length, i64 i]) rfl ?_ ?_
  · exact Canon.mk [] rfl ⟨l.length, 0, Nat.zero_le _, rfl, by simp, rfl, by simp [ints, i64]⟩
  · rintro m vs H ⟨i, hi, rfl, ht, rfl, rfl⟩
    by_cases hil : i < l.length
    · have hc := hg _ (List.getElem_mem hil)
      obtain ⟨f1, f2⟩ := find_step hil ht
      cases hp : p l[i] with
      | true =>
        rw [hp] at hc
        rw [f1 hp]
        refine ND.yes (by omega) ?_
        refine NP.mk (by omega) ?_
        refine NG.mapN (by omega) ?_
        refine NCall.call (hc) rfl rfl ?_
        exact NRet.mk [] rfl ⟨.refl _, rfl⟩
      | false =>
        rw [hp] at hc
        refine ND.yes (by omega) ?_
        refine NP.mk (by omega) ?_
        refine NG.mapN (by omega) ?_
        refine NCall.call (hc) rfl rfl ?_
        refine NW.i64 (by omega) (by omega) ?_
        exact Canon.mk [] rfl ⟨l.length - (i + 1), by omega, i + 1, by omega, rfl, f2 hp, rfl, rfl⟩
    · have : i = l.length := by omega
      subst this
      rw [List.take_length] at ht
      rw [find_none ht]
      refine ND.no (by omega) ?_
      exact NRet.mk [] rfl ⟨.refl _, rfl⟩
theorem containsV_walk (g : Nat) (l : List Int) (p : Int → Bool) (hl : l.length ≤ 2 ^ 40) (hg : ∀ d ∈ l, ACalls Tryz.prog g [i64 d] [] (.bool (p d)) []) :
    ACalls Tryz.prog Nm.slices_ContainsFunc_api_Vec_int [ints l, .fn g []] [] (.bool (l.any p)) [] := by
  have hi := indexV_walk g l p hl hg
  refine ACalls_of tab (dr_snd tab mixed) Nm.slices_ContainsFunc_api_Vec_int_h rfl (by kernel_rfl) (Nat.le_of_ble_eq_true rfl) rfl ?_
  rw [ixI_any]
  by_cases h : 0 ≤ ixI p l
  · rw [decide_eq_true h]
    refine NCall.call (hi) rfl rfl ?_
    refine ND.yes (by omega) ?_
    exact NRet.mk [] rfl ⟨.refl _, rfl⟩
  · rw [decide_eq_false h]
    refine NCall.call (hi) rfl rfl ?_
    refine ND.no (by omega) ?_
    exact NRet.mk [] rfl ⟨.refl _, rfl⟩
theorem all_le (v : List Int) : (v.all fun n => decide (n ≤ 1073741824)) = !v.any fun n => decide (1073741824 < n) := by
  rw [List.not_any_eq_all_not]
  congr 1; funext n
  by_cases h : n ≤ 1073741824
  · simp [h, Int.not_lt.2 h]
  · simp [h, Int.not_le.1 h]
theorem vatI_nonneg (v : List Int) (n : Int) : 0 ≤ vatI v n := by
  unfold vatI; split
  · exact Int.le_refl _
  · exact vat_nonneg _ _
theorem vat_le {v : List Int} {m : Int} (h : ∀ x ∈ v, x ≤ m) (hm : 0 ≤ m) (i : Nat) : vat v i ≤ m := by
  rcases Nat.lt_or_ge i v.length with hi | hi
  · rw [vat_in hi]; have := h _ (List.getElem_mem hi); omega
  · rw [vat_out hi]; exact hm
theorem vatI_le {v : List Int} {m : Int} (h : ∀ x ∈ v, x ≤ m) (hm : 0 ≤ m) (n : Int) : vatI v n ≤ m := by
  unfold vatI; split
  · exact hm
  · exact vat_le h hm _
theorem formed_walk (t : Txn) (ht : smTxn t) : ACalls Tryz.prog Nm.txn_Formed [txnA t] [] (.bool (formed t)) [] := by
  refine ACalls_of tab (dr_snd tab mixed) Nm.txn_Formed_h rfl (by kernel_rfl) (Nat.le_of_ble_eq_true rfl) rfl ?_
  obtain ⟨hs, h1, h2, h3⟩ := ht
  have k1 := vecTrim_walk t.deps (by omega)
  have k2 := equalV_walk (trim t.deps) t.deps (Nat.le_trans (trim_len _) (by omega))
  have k3 := vecAt_walk t.deps t.node (by omega)
  have k4 := containsV_walk Nm.txn_Formed_1 t.deps (fun n => decide (1073741824 < n)) (by omega) (fun n _ => formF_walk n)
  have k5 := right_walk t.node t.seq t.effs (by omega) h3
  have k6 := effHeard_walk t.effs t.node t.seq t.deps (by omega) h3 (by omega)
  obtain ⟨hs1, hs2⟩ := hs
  refine NB.dec (fun hk1 => ?_) (fun hk1 => ?_)
  · refine NRet.boolE (b := false) ?_ (NRet.mk [] rfl ⟨.refl _, rfl⟩)
    grind [formed, vecOk, all_le]
  refine NB.dec (fun hk2 => ?_) (fun hk2 => ?_)
  · refine NRet.boolE (b := false) ?_ (NRet.mk [] rfl ⟨.refl _, rfl⟩)
    grind [formed, vecOk, all_le]
  refine NB.dec (fun hk3 => ?_) (fun hk3 => ?_)
  · refine NRet.boolE (b := false) ?_ (NRet.mk [] rfl ⟨.refl _, rfl⟩)
    grind [formed, vecOk, all_le]
  refine NB.dec (fun hk4 => ?_) (fun hk4 => ?_)
  · refine NRet.boolE (b := false) ?_ (NRet.mk [] rfl ⟨.refl _, rfl⟩)
    grind [formed, vecOk, all_le]
  refine NB.dec (fun hk5 => ?_) (fun hk5 => ?_)
  · refine NRet.boolE (b := false) ?_ (NRet.mk [] rfl ⟨.refl _, rfl⟩)
    grind [formed, vecOk, all_le]
  refine NB.dec (fun hk6 => ?_) (fun hk6 => ?_)
  · refine NRet.boolE (b := false) ?_ (NRet.mk [] rfl ⟨.refl _, rfl⟩)
    grind [formed, vecOk, all_le]
  refine NP.mk (by kernel_rfl) ?_
  apply NDr.rd [0]
  · intro fH TH
    exact ⟨rfl, rfl⟩
  apply NDr.rd [0]
  · intro fH TH
    exact ⟨rfl, rfl⟩
  apply NDr.pure
  · refine NCall.call (k1) rfl rfl ?_
    exact ⟨rfl, rfl⟩
  apply NDr.rd [0]
  · intro fH TH
    exact ⟨rfl, rfl⟩
  apply NDr.rd [0]
  · intro fH TH
    exact ⟨rfl, rfl⟩
  apply NDr.pure
  · refine NCall.call (k2) rfl rfl ?_
    exact ⟨rfl, rfl⟩
  apply NDr.pure
  · exact NB.det0'
  apply NDr.pure
  · exact ⟨rfl, rfl⟩
  refine NB.mk (fun hk7 => ?_) (fun hk7 => ?_)
  · refine NB.yes (by assumption) ?_
    refine NB.yes (by assumption) ?_
    refine NB.yes (by assumption) ?_
    refine NB.yes (by assumption) ?_
    refine NB.yes (by assumption) ?_
    refine NB.yes (by assumption) ?_
    refine NB.yes (by assumption) ?_
    refine NB.yes (by assumption) ?_
    apply NDr.pure
    · refine NB.yes (by assumption) ?_
      exact ⟨rfl, rfl⟩
    apply NDr.pure
    · exact ⟨rfl, rfl⟩
    apply NDr.pure
    · exact ⟨rfl, rfl⟩
    refine NP.mk (by kernel_rfl) ?_
    refine NRet.boolE (b := false) ?_ (NRet.mk [] rfl ⟨.refl _, rfl⟩)
    grind [formed, vecOk, all_le]
  apply NDr.rd [0]
  · intro fH TH
    exact ⟨rfl, rfl⟩
  refine NB.no (by assumption) ?_
  apply NDr.rd [0]
  · intro fH TH
    exact ⟨rfl, rfl⟩
  refine NB.no (by assumption) ?_
  apply NDr.rd [0]
  · intro fH TH
    exact ⟨rfl, rfl⟩
  refine NB.no (by assumption) ?_
  apply NDr.rd [0]
  · intro fH TH
    exact ⟨rfl, rfl⟩
  refine NB.no (by assumption) ?_
  apply NDr.pure
  · refine NCall.call (k3) rfl rfl ?_
    exact ⟨rfl, rfl⟩
  refine NB.no (by assumption) ?_
  apply NDr.rd [0]
  · intro fH TH
    exact ⟨rfl, rfl⟩
  refine NB.no (by assumption) ?_
  apply NDr.rd [0]
  · intro fH TH
    exact ⟨rfl, rfl⟩
  refine NB.no (by assumption) ?_
  apply NDr.pure
  · refine NW.i64 (by omega) (by omega) ?_
    exact ⟨rfl, rfl⟩
  refine NB.no (by assumption) ?_
  apply NDr.pure
  · exact NB.det'
  apply NDr.pure
  · refine NB.no (by assumption) ?_
    exact ⟨rfl, rfl⟩
  apply NDr.pure
  · exact ⟨rfl, rfl⟩
  refine NB.mk (fun hk27 => ?_) (fun hk27 => ?_)
  · refine NB.yes (by assumption) ?_
    refine NB.yes (by assumption) ?_
    apply NDr.pure
    · refine NB.yes (by assumption) ?_
      exact ⟨rfl, rfl⟩
    refine NP.mk (by kernel_rfl) ?_
    refine NRet.boolE (b := false) ?_ (NRet.mk [] rfl ⟨.refl _, rfl⟩)
    grind [formed, vecOk, all_le]
  apply NDr.rd [0]
  · intro fH TH
    exact ⟨rfl, rfl⟩
  refine NB.no (by assumption) ?_
  apply NDr.rd [0]
  · intro fH TH
    exact ⟨rfl, rfl⟩
  refine NB.no (by assumption) ?_
  apply NDr.pure
  · refine NCall.call (k4) rfl rfl ?_
    exact ⟨rfl, rfl⟩
  apply NDr.pure
  · refine NB.no (by assumption) ?_
    exact ⟨rfl, rfl⟩
  refine NP.mk (by kernel_rfl) ?_
  refine NB.mk (fun hk34 => ?_) (fun hk34 => ?_)
  · refine NRet.boolE (b := false) ?_ (NRet.mk [] rfl ⟨.refl _, rfl⟩)
    grind [formed, vecOk, all_le]
  refine NCall.call (k5) rfl rfl ?_
  refine NB.mk (fun hk35 => ?_) (fun hk35 => ?_)
  · refine NB.yes (by assumption) ?_
    refine NB.yes (by assumption) ?_
    refine NB.yes (by assumption) ?_
    refine NB.yes (by assumption) ?_
    refine NB.yes (by assumption) ?_
    refine NB.yes (by assumption) ?_
    refine NB.yes (by assumption) ?_
    refine NB.yes (by assumption) ?_
    refine NCall.call (k6) rfl rfl ?_
    refine NB.yes (by assumption) ?_
    refine NRet.boolE ?_ (NRet.mk [] rfl ⟨.refl _, rfl⟩)
    grind [formed, vecOk, all_le]
  refine NB.no (by assumption) ?_
  refine NB.no (by assumption) ?_
  refine NB.no (by assumption) ?_
  refine NB.no (by assumption) ?_
  refine NB.no (by assumption) ?_
  refine NB.no (by assumption) ?_
  refine NB.no (by assumption) ?_
  refine NB.no (by assumption) ?_
  refine NB.no (by assumption) ?_
  refine NRet.boolE (b := false) ?_ (NRet.mk [] rfl ⟨.refl _, rfl⟩)
  grind [formed, vecOk, all_le]
theorem formed13_walk (t : Txn) (ht : smTxn t) : ACalls Tryz.prog Nm.ref13_Formed [txnA t] [] (.bool (formed t)) [] := by
  refine ACalls_of tab (dr_snd tab mixed) Nm.ref13_Formed_h rfl (by kernel_rfl) (Nat.le_of_ble_eq_true rfl) rfl ?_
  obtain ⟨hs, h1, h2, h3⟩ := ht
  have k1 := trim7_walk t.deps (by omega)
  have k2 := equal7_walk t.deps (trim t.deps) (by omega)
  have k3 := at7_walk t.deps t.node (by omega)
  have k5 := right10_walk t.node t.seq t.effs (by omega) h3
  have k6 := effHeard10_walk t.effs t.node t.seq t.deps (by omega) h3 (by omega)
  obtain ⟨hs1, hs2⟩ := hs
  refine NP.mk (by kernel_rfl) ?_
  apply NDr.rd [0]
  · intro fH TH
    exact ⟨rfl, rfl⟩
  apply NDr.rd [0]
  · intro fH TH
    exact ⟨rfl, rfl⟩
  apply NDr.pure
  · exact NB.det
  apply NDr.pure
  · exact ⟨rfl, rfl⟩
  refine NB.mk (fun hk2 => ?_) (fun hk2 => ?_)
  · refine NB.yes (by assumption) ?_
    refine NB.yes (by assumption) ?_
    apply NDr.pure
    · refine NB.yes (by assumption) ?_
      exact ⟨rfl, rfl⟩
    apply NDr.pure
    · exact ⟨rfl, rfl⟩
    apply NDr.pure
    · exact ⟨rfl, rfl⟩
    apply NDr.pure
    · exact ⟨rfl, rfl⟩
    apply NDr.pure
    · exact ⟨rfl, rfl⟩
    apply NDr.pure
    · exact ⟨rfl, rfl⟩
    apply NDr.pure
    · exact ⟨rfl, rfl⟩
    apply NDr.pure
    · exact ⟨rfl, rfl⟩
    apply NDr.pure
    · exact ⟨rfl, rfl⟩
    apply NDr.pure
    · exact ⟨rfl, rfl⟩
    apply NDr.pure
    · exact ⟨rfl, rfl⟩
    refine NP.mk (by kernel_rfl) ?_
    refine NRet.boolE (b := false) ?_ (NRet.mk [] rfl ⟨.refl _, rfl⟩)
    grind [formed, vecOk, all_le]
  apply NDr.rd [0]
  · intro fH TH
    exact ⟨rfl, rfl⟩
  refine NB.no (by assumption) ?_
  apply NDr.rd [0]
  · intro fH TH
    exact ⟨rfl, rfl⟩
  refine NB.no (by assumption) ?_
  apply NDr.pure
  · exact NB.det
  apply NDr.pure
  · refine NB.no (by assumption) ?_
    exact ⟨rfl, rfl⟩
  apply NDr.pure
  · exact ⟨rfl, rfl⟩
  refine NB.mk (fun hk10 => ?_) (fun hk10 => ?_)
  · refine NB.yes (by assumption) ?_
    refine NB.yes (by assumption) ?_
    apply NDr.pure
    · refine NB.yes (by assumption) ?_
      exact ⟨rfl, rfl⟩
    apply NDr.pure
    · exact ⟨rfl, rfl⟩
    apply NDr.pure
    · exact ⟨rfl, rfl⟩
    apply NDr.pure
    · exact ⟨rfl, rfl⟩
    apply NDr.pure
    · exact ⟨rfl, rfl⟩
    apply NDr.pure
    · exact ⟨rfl, rfl⟩
    apply NDr.pure
    · exact ⟨rfl, rfl⟩
    apply NDr.pure
    · exact ⟨rfl, rfl⟩
    apply NDr.pure
    · exact ⟨rfl, rfl⟩
    refine NP.mk (by kernel_rfl) ?_
    refine NRet.boolE (b := false) ?_ (NRet.mk [] rfl ⟨.refl _, rfl⟩)
    grind [formed, vecOk, all_le]
  apply NDr.rd [0]
  · intro fH TH
    exact ⟨rfl, rfl⟩
  refine NB.no (by assumption) ?_
  apply NDr.rd [0]
  · intro fH TH
    exact ⟨rfl, rfl⟩
  refine NB.no (by assumption) ?_
  apply NDr.pure
  · exact NB.det
  apply NDr.pure
  · refine NB.no (by assumption) ?_
    exact ⟨rfl, rfl⟩
  apply NDr.pure
  · exact ⟨rfl, rfl⟩
  refine NB.mk (fun hk18 => ?_) (fun hk18 => ?_)
  · refine NB.yes (by assumption) ?_
    refine NB.yes (by assumption) ?_
    apply NDr.pure
    · refine NB.yes (by assumption) ?_
      exact ⟨rfl, rfl⟩
    apply NDr.pure
    · exact ⟨rfl, rfl⟩
    apply NDr.pure
    · exact ⟨rfl, rfl⟩
    apply NDr.pure
    · exact ⟨rfl, rfl⟩
    apply NDr.pure
    · exact ⟨rfl, rfl⟩
    apply NDr.pure
    · exact ⟨rfl, rfl⟩
    apply NDr.pure
    · exact ⟨rfl, rfl⟩
    refine NP.mk (by kernel_rfl) ?_
    refine NRet.boolE (b := false) ?_ (NRet.mk [] rfl ⟨.refl _, rfl⟩)
    grind [formed, vecOk, all_le]
  apply NDr.rd [0]
  · intro fH TH
    exact ⟨rfl, rfl⟩
  refine NB.no (by assumption) ?_
  apply NDr.rd [0]
  · intro fH TH
    exact ⟨rfl, rfl⟩
  refine NB.no (by assumption) ?_
  apply NDr.pure
  · exact NB.det
  apply NDr.pure
  · refine NB.no (by assumption) ?_
    exact ⟨rfl, rfl⟩
  apply NDr.pure
  · exact ⟨rfl, rfl⟩
  refine NB.mk (fun hk26 => ?_) (fun hk26 => ?_)
  · refine NB.yes (by assumption) ?_
    refine NB.yes (by assumption) ?_
    refine NB.yes (by assumption) ?_
    apply NDr.pure
    · refine NB.yes (by assumption) ?_
      exact ⟨rfl, rfl⟩
    apply NDr.pure
    · exact ⟨rfl, rfl⟩
    apply NDr.pure
    · exact ⟨rfl, rfl⟩
    apply NDr.pure
    · exact ⟨rfl, rfl⟩
    apply NDr.pure
    · exact ⟨rfl, rfl⟩
    refine NP.mk (by kernel_rfl) ?_
    refine NRet.boolE (b := false) ?_ (NRet.mk [] rfl ⟨.refl _, rfl⟩)
    grind [formed, vecOk, all_le]
  apply NDr.rd [0]
  · intro fH TH
    exact ⟨rfl, rfl⟩
  refine NB.no (by assumption) ?_
  apply NDr.rd [0]
  · intro fH TH
    exact ⟨rfl, rfl⟩
  refine NB.no (by assumption) ?_
  apply NDr.pure
  · exact ⟨rfl, rfl⟩
  refine NB.no (by assumption) ?_
  apply NDr.pure
  · exact NB.det
  apply NDr.pure
  · refine NB.no (by assumption) ?_
    exact ⟨rfl, rfl⟩
  apply NDr.pure
  · exact ⟨rfl, rfl⟩
  refine NB.mk (fun hk36 => ?_) (fun hk36 => ?_)
  · refine NB.yes (by assumption) ?_
    refine NB.yes (by assumption) ?_
    refine NB.yes (by assumption) ?_
    apply NDr.pure
    · refine NB.yes (by assumption) ?_
      exact ⟨rfl, rfl⟩
    apply NDr.pure
    · exact ⟨rfl, rfl⟩
    apply NDr.pure
    · exact ⟨rfl, rfl⟩
    refine NP.mk (by kernel_rfl) ?_
    refine NRet.boolE (b := false) ?_ (NRet.mk [] rfl ⟨.refl _, rfl⟩)
    grind [formed, vecOk, all_le]
  apply NDr.rd [0]
  · intro fH TH
    exact ⟨rfl, rfl⟩
  refine NB.no (by assumption) ?_
  apply NDr.rd [0]
  · intro fH TH
    exact ⟨rfl, rfl⟩
  refine NB.no (by assumption) ?_
  apply NDr.pure
  · exact ⟨rfl, rfl⟩
  refine NB.no (by assumption) ?_
  apply NDr.pure
  · exact NB.det
  apply NDr.pure
  · refine NB.no (by assumption) ?_
    exact ⟨rfl, rfl⟩
  apply NDr.pure
  · exact ⟨rfl, rfl⟩
  refine NB.mk (fun hk46 => ?_) (fun hk46 => ?_)
  · refine NB.yes (by assumption) ?_
    refine NB.yes (by assumption) ?_
    refine NB.yes (by assumption) ?_
    refine NB.yes (by assumption) ?_
    refine NB.yes (by assumption) ?_
    refine NB.yes (by assumption) ?_
    apply NDr.pure
    · refine NB.yes (by assumption) ?_
      exact ⟨rfl, rfl⟩
    refine NP.mk (by kernel_rfl) ?_
    refine NRet.boolE (b := false) ?_ (NRet.mk [] rfl ⟨.refl _, rfl⟩)
    grind [formed, vecOk, all_le]
  apply NDr.rd [0]
  · intro fH TH
    exact ⟨rfl, rfl⟩
  refine NB.no (by assumption) ?_
  apply NDr.rd [0]
  · intro fH TH
    exact ⟨rfl, rfl⟩
  refine NB.no (by assumption) ?_
  apply NDr.rd [0]
  · intro fH TH
    exact ⟨rfl, rfl⟩
  refine NB.no (by assumption) ?_
  apply NDr.rd [0]
  · intro fH TH
    exact ⟨rfl, rfl⟩
  refine NB.no (by assumption) ?_
  apply NDr.pure
  · refine NCall.call (k1) rfl rfl ?_
    exact ⟨rfl, rfl⟩
  refine NB.no (by assumption) ?_
  apply NDr.pure
  · refine NCall.call (k2) rfl rfl ?_
    exact ⟨rfl, rfl⟩
  refine NB.no (by assumption) ?_
  apply NDr.pure
  · exact NB.det0'
  apply NDr.pure
  · refine NB.no (by assumption) ?_
    exact ⟨rfl, rfl⟩
  refine NP.mk (by kernel_rfl) ?_
  refine NB.mk (fun hk61 => ?_) (fun hk61 => ?_)
  · refine NRet.boolE (b := false) ?_ (NRet.mk [] rfl ⟨.refl _, rfl⟩)
    grind [formed, vecOk, all_le]
  refine NLoop.mk [] [1, 3] (fun m vs H => ∃ i, i ≤ t.deps.length ∧ m = t.deps.length - i ∧ (∀ x ∈ t.deps.take i, decide (x ≤ 1073741824) = true) ∧ H = [.row .box (.agg 4) [txnA t]] ∧ vs = [.ptr 0 0 0, i64 i]) rfl ?_ ?_
  · exact Canon.mk [0] rfl ⟨t.deps.length, 0, Nat.zero_le _, rfl, by simp, rfl, rfl⟩
  · rintro m vs H ⟨i, hi, rfl, hall, rfl, rfl⟩
    by_cases hil : i < t.deps.length
    · obtain ⟨f1, f2⟩ := all_step (p := fun x => decide (x ≤ 1073741824)) hil hall
      by_cases hd : t.deps[i] ≤ 1073741824
      · refine ND.yes (by (simp only [List.length_map, List.length_append, List.length_replicate, List.length_cons, List.length_nil, List.length_take, List.length_drop]; omega)) ?_
        refine NP.mk (by omega) ?_
        refine NG.mapN (by omega) ?_
        refine ND.no (by omega) ?_
        refine NW.i64 (by omega) (by omega) ?_
        exact Canon.mk [0] rfl ⟨t.deps.length - (i + 1), by omega, i + 1, by omega, rfl, f2 (decide_eq_true hd), rfl, rfl⟩
      · have f1 := f1 (decide_eq_false hd)
        refine ND.yes (by (simp only [List.length_map, List.length_append, List.length_replicate, List.length_cons, List.length_nil, List.length_take, List.length_drop]; omega)) ?_
        refine NP.mk (by omega) ?_
        refine NG.mapN (by omega) ?_
        refine ND.yes (by omega) ?_
        refine NRet.boolE (b := false) ?_ (NRet.mk [] rfl ⟨.refl _, rfl⟩)
        grind [formed, vecOk]
    · have : i = t.deps.length := by omega
      subst this
      have f1 := all_end (p := fun x => decide (x ≤ 1073741824)) hall
      have hb : 0 ≤ vatI t.deps t.node ∧ vatI t.deps t.node ≤ 1073741824 := ⟨vatI_nonneg _ _, vatI_le (fun x hx => of_decide_eq_true (List.all_eq_true.1 f1 x hx)) (by omega) _⟩
      refine ND.no (by (simp only [List.length_map, List.length_append, List.length_replicate, List.length_cons, List.length_nil, List.length_take, List.length_drop]; omega)) ?_
      refine NP.mk (by kernel_rfl) ?_
      apply NDr.rd [0]
      · intro fH TH
        exact ⟨rfl, rfl⟩
      apply NDr.rd [0]
      · intro fH TH
        exact ⟨rfl, rfl⟩
      apply NDr.rd [0]
      · intro fH TH
        exact ⟨rfl, rfl⟩
      apply NDr.rd [0]
      · intro fH TH
        exact ⟨rfl, rfl⟩
      apply NDr.pure
      · refine NCall.call (k3) rfl rfl ?_
        exact ⟨rfl, rfl⟩
      apply NDr.pure
      · refine NW.i64 (by omega) (by omega) ?_
        exact ⟨rfl, rfl⟩
      apply NDr.rd [0]
      · intro fH TH
        exact ⟨rfl, rfl⟩
      apply NDr.rd [0]
      · intro fH TH
        exact ⟨rfl, rfl⟩
      apply NDr.pure
      · exact NB.det
      apply NDr.pure
      · exact ⟨rfl, rfl⟩
      refine NB.mk (fun hk3 => ?_) (fun hk3 => ?_)
      · apply NDr.rd [0]
        · intro fH TH
          exact ⟨rfl, rfl⟩
        refine NB.yes (by assumption) ?_
        apply NDr.rd [0]
        · intro fH TH
          exact ⟨rfl, rfl⟩
        refine NB.yes (by assumption) ?_
        apply NDr.rd [0]
        · intro fH TH
          exact ⟨rfl, rfl⟩
        refine NB.yes (by assumption) ?_
        apply NDr.rd [0]
        · intro fH TH
          exact ⟨rfl, rfl⟩
        refine NB.yes (by assumption) ?_
        apply NDr.rd [0]
        · intro fH TH
          exact ⟨rfl, rfl⟩
        refine NB.yes (by assumption) ?_
        apply NDr.rd [0]
        · intro fH TH
          exact ⟨rfl, rfl⟩
        refine NB.yes (by assumption) ?_
        apply NDr.pure
        · refine NCall.call (k5) rfl rfl ?_
          exact ⟨rfl, rfl⟩
        apply NDr.pure
        · refine NB.yes (by assumption) ?_
          exact ⟨rfl, rfl⟩
        apply NDr.pure
        · exact ⟨rfl, rfl⟩
        refine NB.mk (fun hk11 => ?_) (fun hk11 => ?_)
        · apply NDr.rd [0]
          · intro fH TH
            exact ⟨rfl, rfl⟩
          refine NB.yes (by assumption) ?_
          apply NDr.rd [0]
          · intro fH TH
            exact ⟨rfl, rfl⟩
          refine NB.yes (by assumption) ?_
          apply NDr.rd [0]
          · intro fH TH
            exact ⟨rfl, rfl⟩
          refine NB.yes (by assumption) ?_
          apply NDr.rd [0]
          · intro fH TH
            exact ⟨rfl, rfl⟩
          refine NB.yes (by assumption) ?_
          apply NDr.rd [0]
          · intro fH TH
            exact ⟨rfl, rfl⟩
          refine NB.yes (by assumption) ?_
          apply NDr.rd [0]
          · intro fH TH
            exact ⟨rfl, rfl⟩
          refine NB.yes (by assumption) ?_
          apply NDr.rd [0]
          · intro fH TH
            exact ⟨rfl, rfl⟩
          refine NB.yes (by assumption) ?_
          apply NDr.rd [0]
          · intro fH TH
            exact ⟨rfl, rfl⟩
          refine NB.yes (by assumption) ?_
          apply NDr.pure
          · refine NCall.call (k6) rfl rfl ?_
            exact ⟨rfl, rfl⟩
          apply NDr.pure
          · refine NB.yes (by assumption) ?_
            exact ⟨rfl, rfl⟩
          apply NDr.pure
          · exact ⟨rfl, rfl⟩
          refine NP.mk (by kernel_rfl) ?_
          refine NRet.boolE ?_ (NRet.mk [] rfl ⟨.refl _, rfl⟩)
          grind [formed, vecOk]
        refine NB.no (by assumption) ?_
        refine NB.no (by assumption) ?_
        refine NB.no (by assumption) ?_
        refine NB.no (by assumption) ?_
        refine NB.no (by assumption) ?_
        refine NB.no (by assumption) ?_
        refine NB.no (by assumption) ?_
        refine NB.no (by assumption) ?_
        apply NDr.pure
        · refine NB.no (by assumption) ?_
          exact ⟨rfl, rfl⟩
        apply NDr.pure
        · exact ⟨rfl, rfl⟩
        refine NP.mk (by kernel_rfl) ?_
        refine NRet.boolE (b := false) ?_ (NRet.mk [] rfl ⟨.refl _, rfl⟩)
        grind [formed, vecOk]
      refine NB.no (by assumption) ?_
      refine NB.no (by assumption) ?_
      refine NB.no (by assumption) ?_
      refine NB.no (by assumption) ?_
      refine NB.no (by assumption) ?_
      refine NB.no (by assumption) ?_
      apply NDr.pure
      · refine NB.no (by assumption) ?_
        exact ⟨rfl, rfl⟩
      apply NDr.pure
      · exact ⟨rfl, rfl⟩
      apply NDr.pure
      · exact ⟨rfl, rfl⟩
      apply NDr.pure
      · exact ⟨rfl, rfl⟩
      refine NP.mk (by kernel_rfl) ?_
      refine NRet.boolE (b := false) ?_ (NRet.mk [] rfl ⟨.refl _, rfl⟩)
      grind [formed, vecOk]
end Go.Bv
namespace Go.Bv
set_option linter.unusedSimpArgs false
set_option linter.unusedVariables false
set_option maxHeartbeats 4000000
set_option maxRecDepth 20000
open Go Go.Proofs
def dotE (g : List Dot) : List (AV × AV) := g.map fun d => (dotA d, AV.bool true)
theorem dotE_get (k : List Dot) (i : Nat) : (dotE k)[i]? = (k[i]?).map fun d => (dotA d, AV.bool true) := by unfold dotE; rw [List.getElem?_map]
theorem NFind.dots {k : List Dot} {d : Dot} {T : Nat → AV → Prop} {E : Prop} (h1 : d ∈ k → ∀ i, (dotE k)[i]? = some (dotA d, .bool true) → T i (.bool true)) (h2 : d ∉ k → E) : NFind [0, 0, 0] (dotE k) (dotA d) T E := by
  by_cases h : d ∈ k
  · have hex : ∃ i : Nat, k[i]? = some d := List.getElem?_of_mem h
    obtain ⟨i, hx, hmin⟩ := least_ex hex
    have hi : (dotE k)[i]? = some (dotA d, .bool true) := by rw [dotE_get, hx]; rfl
    refine .hit i (dotA d) (.bool true) hi (by rw [keyEq_dot]; simp) (fun j hj k' v' hjj => ?_) (h1 h i hi)
    rw [dotE_get] at hjj
    cases hkj : k[j]? with
    | none => rw [hkj] at hjj; simp at hjj
    | some y =>
      rw [hkj] at hjj
      simp only [Option.map_some, Option.some.injEq, Prod.mk.injEq] at hjj
      rw [← hjj.1, keyEq_dot, decide_eq_false]
      exact fun e => hmin j hj (by rw [hkj, e])
  · refine .miss (fun j k' v' hjj => ?_) (h2 h)
    rw [dotE_get] at hjj
    cases hkj : k[j]? with
    | none => rw [hkj] at hjj; simp at hjj
    | some y =>
      rw [hkj] at hjj
      simp only [Option.map_some, Option.some.injEq, Prod.mk.injEq] at hjj
      rw [← hjj.1, keyEq_dot, decide_eq_false]
      exact fun e => h (e ▸ List.mem_of_getElem? hkj)
end Go.Bv
namespace Go.Bv
open Go Go.Proofs
/-- What a walk needn't look at. -/
def Hid (p : Prop) : Prop := p
theorem hid_zero {α : Type} {P : α → Prop} {l : List α} : Hid (∀ x ∈ l.take 0, P x) := fun _ h => by simp at h
end Go.Bv
namespace Go.Bv
set_option linter.unusedSimpArgs false
set_option linter.unusedVariables false
set_option maxHeartbeats 4000000
set_option maxRecDepth 20000
open Go Go.Proofs
end Go.Bv
namespace Go.Bv
set_option linter.unusedSimpArgs false
set_option linter.unusedVariables false
set_option maxHeartbeats 4000000
set_option maxRecDepth 20000
open Go Go.Proofs
end Go.Bv
namespace Go.Bv
set_option linter.unusedSimpArgs false
set_option linter.unusedVariables false
set_option maxHeartbeats 4000000
set_option maxRecDepth 20000
open Go Go.Proofs
def storeB (s : Store) : Blk := .row .box (.agg 2) [.agg [ints s.heard, itemsA s.items]]
theorem equalI_walk (a b : List Item) (ha : a.length ≤ 2 ^ 38) : ACalls Tryz.prog Nm.slices_Equal_api_Item_api_Item [itemsA a, itemsA b] [] (.bool (decide (a = b))) [] := by
  refine ACalls_of tab (dr_snd tab mixed) Nm.slices_Equal_api_Item_api_Item_h rfl (by kernel_rfl) (Nat.le_of_ble_eq_true rfl) rfl ?_
  by_cases hl : a.length = b.length
  · refine ND.yes (by (simp only [List.length_map, List.length_append, List.length_replicate, List.length_cons, List.length_nil, List.length_take, List.length_drop]; omega)) ?_
    refine NLoop.mk [] [0, 1, 11, 12, 13] (fun m vs H => ∃ i, i ≤ a.length ∧ m = a.length - i ∧ a.take i = b.take i ∧ H = [] ∧ vs = [itemsA a, itemsA b, itemsA a, i64 a.length, i64 i]) rfl ?_ ?_
    · exact Canon.mk [] rfl ⟨a.length, 0, Nat.zero_le _, rfl, rfl, rfl, by simp [itemsA, i64]⟩
    · rintro m vs H ⟨i, hi, rfl, ht, rfl, rfl⟩
      by_cases hil : i < a.length
      · have hib : i < b.length := by omega
        refine ND.yes (by omega) ?_
        refine NP.mk (by kernel_rfl) ?_
        apply NDr.pure
        · exact ⟨rfl, rfl⟩
        apply NDr.pure
        · exact ⟨rfl, rfl⟩
        apply NDr.pure
        · refine NP.mk (by omega) ?_
          refine NG.mapN (by omega) ?_
          exact ⟨rfl, rfl⟩
        apply NDr.pure
        · exact ⟨rfl, rfl⟩
        apply NDr.pure
        · exact ⟨rfl, rfl⟩
        apply NDr.pure
        · exact ⟨rfl, rfl⟩
        apply NDr.pure
        · refine NP.mk (by omega) ?_
          refine NG.mapN (by omega) ?_
          exact ⟨rfl, rfl⟩
        apply NDr.pure
        · exact ⟨rfl, rfl⟩
        apply NDr.pure
        · exact NB.det'
        refine NP.mk (by kernel_rfl) ?_
        refine NB.mk (fun hk3 => ?_) (fun hk3 => ?_)
        · refine NRet.boolE (b := false) ?_ (NRet.mk [] rfl ⟨.refl _, rfl⟩)
          grind
        refine NW.i64 (by omega) (by omega) ?_
        exact Canon.mk [] rfl ⟨a.length - (i + 1), by omega, i + 1, by omega, rfl, take_eq_next ht hil hib (by grind [Item.ext_iff, Dot.ext_iff]), rfl, rfl⟩
      · have : i = a.length := by omega
        subst this
        rw [decide_eq_true (take_eq_end hl ht)]
        refine ND.no (by omega) ?_
        exact NRet.mk [] rfl ⟨.refl _, rfl⟩
  · rw [decide_eq_false fun e => hl (by rw [e])]
    refine ND.no (by (simp only [List.length_map, List.length_append, List.length_replicate, List.length_cons, List.length_nil, List.length_take, List.length_drop]; omega)) ?_
    exact NRet.mk [] rfl ⟨.refl _, rfl⟩
theorem soundF1_walk (n : Int) : ACalls Tryz.prog Nm.store_Sound_1 [i64 n] [] (.bool (decide (1073741824 < n))) [] := by
  refine ACalls_of tab (dr_snd tab mixed) Nm.store_Sound_1_h rfl (by kernel_rfl) (Nat.le_of_ble_eq_true rfl) rfl ?_
  refine NB.dec (fun hk1 => ?_) (fun hk1 => ?_)
  · refine NRet.boolE (b := true) ?_ (NRet.mk [] rfl ⟨.refl _, rfl⟩)
    (simp only [decide_eq_true_eq, decide_eq_false_iff_not, eq_comm (a := true), eq_comm (a := false)]; omega)
  refine NRet.boolE (b := false) ?_ (NRet.mk [] rfl ⟨.refl _, rfl⟩)
  (simp only [decide_eq_true_eq, decide_eq_false_iff_not, eq_comm (a := true), eq_comm (a := false)]; omega)
theorem soundF2_walk (s : Store) (x : Item) (hv : s.heard.length ≤ 2 ^ 38) (hx : smItem x) : ACalls Tryz.prog Nm.store_Sound_2 [itemA x, .ptr 0 0 0] [storeB s] (.bool (!heldB s.heard x)) [storeB s] := by
  refine ACalls_of tab (dr_snd tab mixed) Nm.store_Sound_2_h rfl (by kernel_rfl) (Nat.le_of_ble_eq_true rfl) rfl ?_
  have h1 := itemFormed_walk x hx
  have h2 := vecHas_walk s.heard x.dot.node x.dot.seq x.dot.at' (by omega)
  unfold heldB hasB storeB
  cases hf : itemOk x with
  | false =>
    rw [hf] at h1
    refine NCall.call (h1) rfl rfl ?_
    exact NRet.mk [] rfl ⟨.refl _, rfl⟩
  | true =>
    rw [hf] at h1
    refine NCall.call (h1) rfl rfl ?_
    refine NCall.call (h2) rfl rfl ?_
    refine NB.mk (fun hk1 => ?_) (fun hk1 => ?_)
    · refine NRet.boolE (b := false) ?_ (NRet.mk [] rfl ⟨.refl _, rfl⟩)
      (simp [*]; done)
    refine NRet.boolE (b := true) ?_ (NRet.mk [] rfl ⟨.refl _, rfl⟩)
    (simp [*]; done)
theorem indexIs_walk (g : Nat) (s : Store) (l : List Item) (p : Item → Bool) (hl : l.length ≤ 2 ^ 38) (hg : ∀ x ∈ l, ACalls Tryz.prog g [itemA x, .ptr 0 0 0] [storeB s] (.bool (p x)) [storeB s]) :
    ACalls Tryz.prog Nm.slices_IndexFunc_api_Item_api_Item [itemsA l, .fn g [.ptr 0 0 0]] [storeB s] (i64 (ixI p l)) [storeB s] := by
  refine ACalls_of tab (dr_snd tab mixed) Nm.slices_IndexFunc_api_Item_api_Item_h rfl (by kernel_rfl) (Nat.le_of_ble_eq_true rfl) rfl ?_
  refine NLoop.mk [] [0, 1, 6, 7, 8] (fun m vs H => ∃ i, i ≤ l.length ∧ m = l.length - i ∧ (∀ x ∈ l.take i, p x = false) ∧ H = [storeB s] ∧ vs = [itemsA l, .fn g [.ptr 0 0 0], itemsA l, i64 l.length, i64 i]) rfl ?_ ?_
  · exact Canon.mk [] rfl ⟨l.length, 0, Nat.zero_le _, rfl, by simp, rfl, by simp [itemsA, i64]⟩
  · rintro m vs H ⟨i, hi, rfl, ht, rfl, rfl⟩
    by_cases hil : i < l.length
    · have hc := hg _ (List.getElem_mem hil)
      obtain ⟨f1, f2⟩ := find_step hil ht
      cases hp : p l[i] with
      | true =>
        rw [hp] at hc
        rw [f1 hp]
        refine ND.yes (by omega) ?_
        refine NP.mk (by omega) ?_
        refine NG.mapN (by omega) ?_
        refine NCall.atA (hc) ?_
        exact NRet.mk [] rfl ⟨.refl _, rfl⟩
      | false =>
        rw [hp] at hc
        refine ND.yes (by omega) ?_
        refine NP.mk (by omega) ?_
        refine NG.mapN (by omega) ?_
        refine NCall.atA (hc) ?_
        refine NW.i64 (by omega) (by omega) ?_
        exact Canon.mk [] rfl ⟨l.length - (i + 1), by omega, i + 1, by omega, rfl, f2 hp, rfl, rfl⟩
    · have : i = l.length := by omega
      subst this
      rw [List.take_length] at ht
      rw [find_none ht]
      refine ND.no (by omega) ?_
      exact NRet.mk [] rfl ⟨.refl _, rfl⟩
theorem containsIs_walk (g : Nat) (s : Store) (l : List Item) (p : Item → Bool) (hl : l.length ≤ 2 ^ 38) (hg : ∀ x ∈ l, ACalls Tryz.prog g [itemA x, .ptr 0 0 0] [storeB s] (.bool (p x)) [storeB s]) :
    ACalls Tryz.prog Nm.slices_ContainsFunc_api_Item_api_Item [itemsA l, .fn g [.ptr 0 0 0]] [storeB s] (.bool (l.any p)) [storeB s] := by
  have hi := indexIs_walk g s l p hl hg
  refine ACalls_of tab (dr_snd tab mixed) Nm.slices_ContainsFunc_api_Item_api_Item_h rfl (by kernel_rfl) (Nat.le_of_ble_eq_true rfl) rfl ?_
  rw [ixI_any]
  by_cases h : 0 ≤ ixI p l
  · rw [decide_eq_true h]
    refine NCall.atA (hi) ?_
    refine ND.yes (by omega) ?_
    exact NRet.mk [] rfl ⟨.refl _, rfl⟩
  · rw [decide_eq_false h]
    refine NCall.atA (hi) ?_
    refine ND.no (by omega) ?_
    exact NRet.mk [] rfl ⟨.refl _, rfl⟩
def smS (s : Store) : Prop := s.heard.length ≤ 2 ^ 38 ∧ s.items.length ≤ 50000 ∧ ∀ x ∈ s.items, smItem x
theorem sound_walk (s : Store) (hs : smS s) : ACalls Tryz.prog Nm.store_Sound [storeA s] [] (.bool (soundS s)) [] := by
  refine ACalls_of tab (dr_snd tab mixed) Nm.store_Sound_h rfl (by kernel_rfl) (Nat.le_of_ble_eq_true rfl) rfl ?_
  obtain ⟨h1, h2, h3⟩ := hs
  have k1 := vecTrim_walk s.heard (by omega)
  have k2 := equalV_walk (trim s.heard) s.heard (by have := trim_len s.heard; omega)
  have k3 := containsV_walk Nm.store_Sound_1 s.heard (fun n => decide (1073741824 < n)) (by omega) (fun n _ => soundF1_walk n)
  have k4 := norm_list s.items (by omega)
  have k5 := equalI_walk (norm s.items) s.items (by have := norm_len s.items; omega)
  have k6 := containsIs_walk Nm.store_Sound_2 s s.items (fun x => !heldB s.heard x) (by omega) (fun x hx => soundF2_walk s x h1 (h3 x hx))
  have e6 : (s.items.any fun x => !heldB s.heard x) = !(s.items.all (heldB s.heard)) := by rw [List.not_all_eq_any_not]
  rw [e6] at k6
  unfold soundS vecOk
  rw [all_le]
  unfold storeB at k6
  refine NP.mk (by kernel_rfl) ?_
  apply NDr.rd [0]
  · intro fH TH
    exact ⟨rfl, rfl⟩
  apply NDr.rd [0]
  · intro fH TH
    exact ⟨rfl, rfl⟩
  apply NDr.pure
  · exact ⟨rfl, rfl⟩
  apply NDr.pure
  · exact NB.det
  apply NDr.pure
  · exact ⟨rfl, rfl⟩
  refine NB.mk (fun hk2 => ?_) (fun hk2 => ?_)
  · refine NB.yes (by assumption) ?_
    refine NB.yes (by assumption) ?_
    refine NB.yes (by assumption) ?_
    refine NB.yes (by assumption) ?_
    refine NB.yes (by assumption) ?_
    refine NB.yes (by assumption) ?_
    apply NDr.pure
    · refine NB.yes (by assumption) ?_
      exact ⟨rfl, rfl⟩
    apply NDr.pure
    · exact ⟨rfl, rfl⟩
    apply NDr.pure
    · exact ⟨rfl, rfl⟩
    refine NP.mk (by kernel_rfl) ?_
    refine NRet.boolE (b := false) ?_ (NRet.mk [] rfl ⟨.refl _, rfl⟩)
    grind
  apply NDr.rd [0]
  · intro fH TH
    exact ⟨rfl, rfl⟩
  refine NB.no (by assumption) ?_
  apply NDr.rd [0]
  · intro fH TH
    exact ⟨rfl, rfl⟩
  refine NB.no (by assumption) ?_
  apply NDr.pure
  · refine NCall.call (k1) rfl rfl ?_
    exact ⟨rfl, rfl⟩
  refine NB.no (by assumption) ?_
  apply NDr.rd [0]
  · intro fH TH
    exact ⟨rfl, rfl⟩
  refine NB.no (by assumption) ?_
  apply NDr.rd [0]
  · intro fH TH
    exact ⟨rfl, rfl⟩
  refine NB.no (by assumption) ?_
  apply NDr.pure
  · refine NCall.call (k2) rfl rfl ?_
    exact ⟨rfl, rfl⟩
  refine NB.no (by assumption) ?_
  apply NDr.pure
  · exact NB.det0'
  apply NDr.pure
  · refine NB.no (by assumption) ?_
    exact ⟨rfl, rfl⟩
  apply NDr.pure
  · exact ⟨rfl, rfl⟩
  refine NB.mk (fun hk17 => ?_) (fun hk17 => ?_)
  · refine NB.yes (by assumption) ?_
    refine NB.yes (by assumption) ?_
    apply NDr.pure
    · refine NB.yes (by assumption) ?_
      exact ⟨rfl, rfl⟩
    refine NP.mk (by kernel_rfl) ?_
    refine NRet.boolE (b := false) ?_ (NRet.mk [] rfl ⟨.refl _, rfl⟩)
    grind
  apply NDr.rd [0]
  · intro fH TH
    exact ⟨rfl, rfl⟩
  refine NB.no (by assumption) ?_
  apply NDr.rd [0]
  · intro fH TH
    exact ⟨rfl, rfl⟩
  refine NB.no (by assumption) ?_
  apply NDr.pure
  · refine NCall.call (k3) rfl rfl ?_
    exact ⟨rfl, rfl⟩
  apply NDr.pure
  · refine NB.no (by assumption) ?_
    exact ⟨rfl, rfl⟩
  refine NP.mk (by kernel_rfl) ?_
  refine NB.mk (fun hk24 => ?_) (fun hk24 => ?_)
  · refine NRet.boolE (b := false) ?_ (NRet.mk [] rfl ⟨.refl _, rfl⟩)
    (simp [*]; done)
  refine NP.mk (by kernel_rfl) ?_
  apply NDr.rd [0]
  · intro fH TH
    exact ⟨rfl, rfl⟩
  apply NDr.rd [0]
  · intro fH TH
    exact ⟨rfl, rfl⟩
  apply NDr.pure
  · refine NCall.call (k4) rfl rfl ?_
    exact ⟨rfl, rfl⟩
  apply NDr.rd [0]
  · intro fH TH
    exact ⟨rfl, rfl⟩
  apply NDr.rd [0]
  · intro fH TH
    exact ⟨rfl, rfl⟩
  apply NDr.pure
  · refine NCall.call (k5) rfl rfl ?_
    exact ⟨rfl, rfl⟩
  apply NDr.pure
  · exact NB.det0'
  refine NP.mk (by kernel_rfl) ?_
  refine NB.mk (fun hk25 => ?_) (fun hk25 => ?_)
  · refine NRet.boolE (b := false) ?_ (NRet.mk [] rfl ⟨.refl _, rfl⟩)
    grind
  refine NCall.atA (k6) ?_
  refine NB.mk (fun hk26 => ?_) (fun hk26 => ?_)
  · refine NRet.boolE (b := false) ?_ (NRet.mk [] rfl ⟨.refl _, rfl⟩)
    grind
  refine NRet.boolE (b := true) ?_ (NRet.mk [] rfl ⟨.refl _, rfl⟩)
  grind
theorem storeDo_walk (s : Store) (t : Txn) (hs : smS s) (ht : smTxn t) (hn : t.effs.length ≤ 100) : ACalls Tryz.prog Nm.store_Do [storeA s, txnA t] [] (if formed t = true then if hasB s.heard t.node t.seq = true then .tup [storeA ⟨[], []⟩, i64 8] else if ready s.heard t = true then .tup [storeA (doT s t), i64 0] else .tup [storeA ⟨[], []⟩, i64 9] else .tup [storeA ⟨[], []⟩, i64 2]) [] := by
  refine ACalls_of tab (dr_snd tab mixed) Nm.store_Do_h rfl (by kernel_rfl) (Nat.le_of_ble_eq_true rfl) rfl ?_
  obtain ⟨h1, h2, h3⟩ := hs
  have k1 := formed_walk t ht
  have k2 := dot_walk t
  have k3 := vecHas_walk s.heard t.node t.seq 0 (by omega)
  have k4 := ready_walk s.heard t h1 (by have := ht.2.1; omega) ht.1
  have k5 := next_walk s.heard t (by omega)
  have k6 := do_walk s.items t.node t.seq t.effs h2 (by omega) ht.2.2.2
  obtain ⟨r, hr⟩ : ∃ r, r = (if formed t = true then if hasB s.heard t.node t.seq = true then AV.tup [storeA ⟨[], []⟩, i64 8] else if ready s.heard t = true then .tup [storeA (doT s t), i64 0] else .tup [storeA ⟨[], []⟩, i64 9] else .tup [storeA ⟨[], []⟩, i64 2]) := ⟨_, rfl⟩
  rw [← hr]
  cases e1 : formed t with
  | false =>
    rw [e1] at k1 hr
    rw [if_neg (by simp)] at hr
    subst hr
    refine NCall.call (k1) rfl rfl ?_
    exact NRet.mk [] rfl ⟨by repeat (first | exact LeA.refl _ | exact LeA.nils _ | refine LeA.agg ?_ | refine LeA.tup ?_ | exact LeAs.nil | refine LeAs.cons ?_ ?_), rfl⟩
  | true =>
    rw [e1] at k1 hr
    rw [if_pos rfl] at hr
    cases e2 : hasB s.heard t.node t.seq with
    | true =>
      rw [e2, if_pos rfl] at hr
      unfold hasB at e2
      rw [e2] at k3
      subst hr
      refine NCall.call (k1) rfl rfl ?_
      refine NP.mk (by kernel_rfl) ?_
      apply NDr.rd [0]
      · intro fH TH
        exact ⟨rfl, rfl⟩
      apply NDr.rd [0]
      · intro fH TH
        exact ⟨rfl, rfl⟩
      apply NDr.rd [1]
      · intro fH TH
        exact ⟨rfl, rfl⟩
      apply NDr.pure
      · refine NCall.call (k2) rfl rfl ?_
        exact ⟨rfl, rfl⟩
      apply NDr.pure
      · refine NCall.call (k3) rfl rfl ?_
        exact ⟨rfl, rfl⟩
      apply NDr.pure
      · exact ⟨rfl, rfl⟩
      refine NP.mk (by kernel_rfl) ?_
      exact NRet.mk [] rfl ⟨by repeat (first | exact LeA.refl _ | exact LeA.nils _ | refine LeA.agg ?_ | refine LeA.tup ?_ | exact LeAs.nil | refine LeAs.cons ?_ ?_), rfl⟩
    | false =>
      rw [e2, if_neg (by simp)] at hr
      unfold hasB at e2
      rw [e2] at k3
      cases e3 : ready s.heard t with
      | false =>
        rw [e3] at k4 hr
        rw [if_neg (by simp)] at hr
        subst hr
        refine NCall.call (k1) rfl rfl ?_
        refine NP.mk (by kernel_rfl) ?_
        apply NDr.rd [0]
        · intro fH TH
          exact ⟨rfl, rfl⟩
        apply NDr.rd [0]
        · intro fH TH
          exact ⟨rfl, rfl⟩
        apply NDr.rd [1]
        · intro fH TH
          exact ⟨rfl, rfl⟩
        apply NDr.pure
        · refine NCall.call (k2) rfl rfl ?_
          exact ⟨rfl, rfl⟩
        apply NDr.pure
        · refine NCall.call (k3) rfl rfl ?_
          exact ⟨rfl, rfl⟩
        apply NDr.pure
        · exact ⟨rfl, rfl⟩
        refine NP.mk (by kernel_rfl) ?_
        refine NCall.call (k4) rfl rfl ?_
        exact NRet.mk [] rfl ⟨by repeat (first | exact LeA.refl _ | exact LeA.nils _ | refine LeA.agg ?_ | refine LeA.tup ?_ | exact LeAs.nil | refine LeAs.cons ?_ ?_), rfl⟩
      | true =>
        rw [e3] at k4 hr
        rw [if_pos rfl] at hr
        subst hr
        refine NCall.call (k1) rfl rfl ?_
        refine NP.mk (by kernel_rfl) ?_
        apply NDr.rd [0]
        · intro fH TH
          exact ⟨rfl, rfl⟩
        apply NDr.rd [0]
        · intro fH TH
          exact ⟨rfl, rfl⟩
        apply NDr.rd [1]
        · intro fH TH
          exact ⟨rfl, rfl⟩
        apply NDr.pure
        · refine NCall.call (k2) rfl rfl ?_
          exact ⟨rfl, rfl⟩
        apply NDr.pure
        · refine NCall.call (k3) rfl rfl ?_
          exact ⟨rfl, rfl⟩
        apply NDr.pure
        · exact ⟨rfl, rfl⟩
        refine NP.mk (by kernel_rfl) ?_
        refine NCall.call (k4) rfl rfl ?_
        refine NP.mk (by kernel_rfl) ?_
        apply NDr.rd [0]
        · intro fH TH
          exact ⟨rfl, rfl⟩
        apply NDr.rd [0]
        · intro fH TH
          exact ⟨rfl, rfl⟩
        apply NDr.rd [1]
        · intro fH TH
          exact ⟨rfl, rfl⟩
        apply NDr.pure
        · refine NCall.call (k5) rfl rfl ?_
          exact ⟨rfl, rfl⟩
        apply NDr.rd [0]
        · intro fH TH
          exact ⟨rfl, rfl⟩
        apply NDr.rd [0]
        · intro fH TH
          exact ⟨rfl, rfl⟩
        apply NDr.rd [1]
        · intro fH TH
          exact ⟨rfl, rfl⟩
        apply NDr.rd [1]
        · intro fH TH
          exact ⟨rfl, rfl⟩
        apply NDr.rd [1]
        · intro fH TH
          exact ⟨rfl, rfl⟩
        apply NDr.rd [1]
        · intro fH TH
          exact ⟨rfl, rfl⟩
        apply NDr.rd [1]
        · intro fH TH
          exact ⟨rfl, rfl⟩
        apply NDr.rd [1]
        · intro fH TH
          exact ⟨rfl, rfl⟩
        apply NDr.pure
        · refine NCall.call (k6) rfl rfl ?_
          exact ⟨rfl, rfl⟩
        apply NDr.pure
        · exact ⟨rfl, rfl⟩
        apply NDr.efw [2]
        · exact ⟨rfl, rfl⟩
        · repeat (first | exact True.intro | refine ⟨by first | exact rfl | exact True.intro, ?_⟩)
        apply NDr.pure
        · exact ⟨rfl, rfl⟩
        refine NP.mk (by kernel_rfl) ?_
        exact NRet.mk [] rfl ⟨.refl _, rfl⟩
theorem cloneI_list (l : List Item) (hl : l.length ≤ 2 ^ 38) : ACalls Tryz.prog Nm.slices_Clone_api_Item_api_Item [itemsA l] [] (itemsA l) [] := (cloneI_walk l hl).drop (dropL (by simp))
theorem chain_at : ∀ {c : List Txn} {v : List Int} {i : Nat}, chain v c = true → ∀ h : i < c.length, ready (nexts v (c.take i)) c[i] = true
  | [], _, _, _, h => by simp at h
  | t :: c, v, 0, hc, _ => ((chain_cons v t c).1 hc).1
  | t :: c, v, i + 1, hc, h => by
    have := chain_at ((chain_cons v t c).1 hc).2 (i := i) (by simpa using h)
    simpa [nexts_cons] using this
theorem ready_old {v : List Int} {t : Txn} (h : ready v t = true) : hasB v t.node t.seq = false := by
  obtain ⟨_, h2, _⟩ := (ready_iff v t).1 h
  unfold hasB
  exact decide_eq_false (by omega)
theorem foldl_heard (l : List Txn) (s : Store) : (l.foldl doT s).heard = nexts s.heard l := by rw [foldl_doT]
theorem foldl_snoc' {α β : Type} (f : β → α → β) (b : β) {l : List α} {i : Nat} (h : i < l.length) : (l.take (i + 1)).foldl f b = f ((l.take i).foldl f b) l[i] := by
  rw [List.take_succ_eq_append_getElem h, List.foldl_append]; rfl
theorem do_mem {n s : Int} {es : List Eff} {X : List Item} {x : Item} (h : x ∈ doL n s X es) : x ∈ X ∨ ∃ e ∈ es, x = made n s e := by
  by_cases he : es = []
  · subst he; exact .inl h
  · rw [doL_raw he] at h
    rcases (mem_rawL es X x).1 (norm_mem h) with ⟨h, _⟩ | h
    · exact .inl h
    · obtain ⟨e, he, _, rfl⟩ := madeBy_ex h
      exact .inr ⟨e, he, rfl⟩
theorem done_sm : ∀ (l : List Txn) {s : Store}, (s.heard.length ≤ 2 ^ 38 ∧ s.items.length ≤ 40000 ∧ ∀ x ∈ s.items, smItem x) → (∀ t ∈ l, formed t = true) → (∀ t ∈ l, smTxn t) → l.length ≤ 1000 → smS (l.foldl doT s) := by
  have : ∀ (l : List Txn) {s : Store}, s.heard.length ≤ 2 ^ 38 → s.items.length + 8 * l.length ≤ 50000 → (∀ x ∈ s.items, smItem x) → (∀ t ∈ l, formed t = true) → (∀ t ∈ l, smTxn t) → smS (l.foldl doT s) := by
    intro l
    induction l with
    | nil => intro s h1 h2 h3 _ _; exact ⟨h1, by simpa using h2, h3⟩
    | cons t l ih =>
      intro s h1 h2 h3 hf hx
      rw [List.length_cons] at h2
      have ht := formed_len (hf t (List.mem_cons_self ..))
      have hd := doL_len (n := t.node) (s := t.seq) t.effs s.items
      rw [List.foldl_cons]
      refine ih (s := doT s t) ?_ ?_ ?_ (fun t' h' => hf t' (List.mem_cons_of_mem _ h')) (fun t' h' => hx t' (List.mem_cons_of_mem _ h'))
      · have := next_len s.heard t
        show (next s.heard t).length ≤ _
        omega
      · show (doL t.node t.seq s.items t.effs).length + _ ≤ _
        omega
      · intro x hx'
        rcases do_mem (show x ∈ doL t.node t.seq s.items t.effs from hx') with h | ⟨e, he, rfl⟩
        · exact h3 x h
        · exact smMade ((hx t (List.mem_cons_self ..)).2.2.2 e he)
  exact fun l s h hf hx hl => this l h.1 (by omega) h.2.2 hf hx
theorem storeAll_walk (s : Store) (l : List Txn) (hs : smS s) (hl : l.length ≤ 1000) (hx : ∀ t ∈ l, smTxn t) (hi : s.items.length ≤ 40000) : ACalls Tryz.prog Nm.store_All [storeA s, txnsA l] [] (.tup [storeA (allS s l).1, txnsA (allS s l).2]) [] := by
  refine ACalls_of tab (dr_snd tab mixed) Nm.store_All_h rfl (by kernel_rfl) (Nat.le_of_ble_eq_true rfl) rfl ?_
  obtain ⟨h1, h2, h3⟩ := hs
  have k1 := cloneV_list s.heard (by omega)
  have k2 := cloneI_list s.items (by omega)
  refine NP.mk (by kernel_rfl) ?_
  apply NDr.rd [0]
  · intro fH TH
    exact ⟨rfl, rfl⟩
  apply NDr.rd [0]
  · intro fH TH
    exact ⟨rfl, rfl⟩
  apply NDr.pure
  · refine NCall.call (k1) rfl rfl ?_
    exact ⟨rfl, rfl⟩
  apply NDr.rd [0]
  · intro fH TH
    exact ⟨rfl, rfl⟩
  apply NDr.rd [0]
  · intro fH TH
    exact ⟨rfl, rfl⟩
  apply NDr.pure
  · refine NCall.call (k2) rfl rfl ?_
    exact ⟨rfl, rfl⟩
  apply NDr.pure
  · exact ⟨rfl, rfl⟩
  apply NDr.rd [0]
  · intro fH TH
    exact ⟨rfl, rfl⟩
  refine NP.mk (by kernel_rfl) ?_
  refine NLoop.mk [(6, .agg 4)] [2, 4, 6, 20, 21, 22] (fun m vs H => ∃ i, i ≤ l.length ∧ m = l.length - i ∧ H = [.row .box (.agg 2) [.agg (storeC s)], .row .box (.agg 2) [.agg [.nils, .nils]], .row .vrow (.agg 4) (((l.take i).filter okT).map txnA)] ∧
    vs = [.ptr 0 0 0, .ptr 1 0 0, .own 2 0 (((l.take i).filter okT).map txnA).length, txnsA l, i64 l.length, i64 i]) rfl ?_ ?_
  · exact Canon.mk [0, 1, 2] rfl ⟨l.length, 0, Nat.zero_le _, rfl, rfl, by simp [txnsA, i64]⟩
  rintro m vs H ⟨i, hil, rfl, rfl, rfl⟩
  by_cases hil : i < l.length
  · have hsn := filter_take okT l hil
    have hfl : ((l.take i).filter okT).length ≤ i := Nat.le_trans (List.length_filter_le _ _) (by rw [List.length_take]; omega)
    have k3 := formed_walk l[i] (hx _ (List.getElem_mem hil))
    generalize (l.take i).filter okT = F at *
    cases hp : formed l[i] with
    | true =>
      rw [show okT l[i] = true from hp, if_pos rfl] at hsn
      rw [hp] at k3
      refine ND.yes (by omega) ?_
      refine NP.mk (by omega) ?_
      refine NG.mapN (by omega) ?_
      refine NCall.call (k3) rfl rfl ?_
      refine NFz.own ?_
      refine NApp.endA rfl (by simp; omega) ?_
      refine NW.i64 (by omega) (by omega) ?_
      exact Canon.mk [0, 1, 4] rfl ⟨l.length - (i + 1), by omega, i + 1, by omega, rfl, by rw [hsn, List.map_append]; rfl, by rw [hsn, List.map_append]; rfl⟩
    | false =>
      rw [show okT l[i] = false from hp, if_neg (by simp)] at hsn
      rw [hp] at k3
      refine ND.yes (by omega) ?_
      refine NP.mk (by omega) ?_
      refine NG.mapN (by omega) ?_
      refine NCall.call (k3) rfl rfl ?_
      refine NW.i64 (by omega) (by omega) ?_
      exact Canon.mk [0, 1, 2] rfl ⟨l.length - (i + 1), by omega, i + 1, by omega, rfl, by rw [hsn] <;> rfl, by rw [hsn] <;> rfl⟩
  have : i = l.length := by omega
  subst this
  rw [List.take_length]
  have hF : ∀ t ∈ l.filter okT, smTxn t := fun t ht => hx t (List.mem_filter.1 ht).1
  have hFl := List.length_filter_le okT l
  have k4 := take_walk s.heard (l.filter okT) (by omega) (by omega) hF
  refine ND.no (by omega) ?_
  refine NCall.eq (by simp only [List.length_map] <;> exact rfl) ?_
  refine NCall.frzAllN [2] (k4) (.cons (.same _) (.cons (.own (by simp) rfl (by simp) (by simp) (by rw [List.drop_zero, List.take_of_length_le (by simp)])) .nil)) rfl rfl rfl ?_
  have hc := takeT_chain s.heard (l.filter okT)
  have hcf := done_formed (v := s.heard) (l := l)
  have hcl := takeT_len s.heard (l.filter okT)
  have hcx : ∀ t ∈ (takeT s.heard (l.filter okT)).1, smTxn t := fun t ht => hF t (takeT_mem ht)
  have hall : allS s l = ((takeT s.heard (l.filter okT)).1.foldl doT s, (takeT s.heard (l.filter okT)).1) := rfl
  rw [hall]
  generalize (takeT s.heard (l.filter okT)).1 = c at *
  refine NLoop.mk [] [2, 4, 9, 40, 41, 42] (fun m vs H => ∃ i, i ≤ c.length ∧ m = c.length - i ∧ H = [.row .box (.agg 2) [.agg (storeC ((c.take i).foldl doT s))], .row .box (.agg 2) [.agg [.nils, .nils]]] ∧
    vs = [.ptr 0 0 0, .ptr 1 0 0, txnsA c, txnsA c, i64 c.length, i64 i]) rfl ?_ ?_
  · exact Canon.mk [0, 1] rfl ⟨c.length, 0, Nat.zero_le _, rfl, rfl, by simp [txnsA, i64]⟩
  rintro m vs H ⟨i, hil, rfl, rfl, rfl⟩
  by_cases hil : i < c.length
  · have hsn := foldl_snoc' doT s hil
    have hsm := done_sm (c.take i) ⟨h1, hi, h3⟩ (fun t ht => hcf t (List.mem_of_mem_take ht)) (fun t ht => hcx t (List.mem_of_mem_take ht)) (by rw [List.length_take]; omega)
    have hr := chain_at hc hil
    rw [← foldl_heard] at hr
    have hf := hcf _ (List.getElem_mem hil)
    have k5 := storeDo_walk ((c.take i).foldl doT s) c[i] hsm (hcx _ (List.getElem_mem hil)) (by have := formed_len hf; omega)
    rw [if_pos hf, if_neg (by rw [ready_old hr]; simp), if_pos hr] at k5
    rw [← hsn] at k5
    generalize (c.take i).foldl doT s = u at *
    obtain ⟨w, hw⟩ : ∃ w, w = (c.take (i + 1)).foldl doT s := ⟨_, rfl⟩
    rw [← hw] at k5
    refine ND.yes (by omega) ?_
    refine NP.mk (by omega) ?_
    refine NG.mapN (by omega) ?_
    refine NCall.call (k5) rfl rfl ?_
    refine NW.i64 (by omega) (by omega) ?_
    exact Canon.mk [0, 1] rfl ⟨c.length - (i + 1), by omega, i + 1, by omega, rfl, by rw [← hw] <;> rfl, rfl⟩
  have : i = c.length := by omega
  subst this
  rw [List.take_length]
  refine ND.no (by omega) ?_
  exact NRet.mk [] rfl ⟨.refl _, rfl⟩
theorem same15_walk (a b : Store) (ha : a.heard.length ≤ 2 ^ 38) (hai : a.items.length ≤ 2 ^ 38) : ACalls Tryz.prog Nm.ref15_Same [storeA a, storeA b] [] (.bool (decide (a = b))) [] := by
  refine ACalls_of tab (dr_snd tab mixed) Nm.ref15_Same_h rfl (by kernel_rfl) (Nat.le_of_ble_eq_true rfl) rfl ?_
  have h1 := equal7_walk a.heard b.heard (by omega)
  have h2 := same9_walk a.items b.items hai
  by_cases e1 : a.heard = b.heard
  · rw [decide_eq_true e1] at h1
    by_cases e2 : a.items = b.items
    · rw [decide_eq_true e2] at h2
      rw [decide_eq_true (show a = b from Store.ext e1 e2)]
      refine NCall.call (h1) rfl rfl ?_
      refine NCall.call (h2) rfl rfl ?_
      exact NRet.mk [] rfl ⟨.refl _, rfl⟩
    · rw [decide_eq_false e2] at h2
      rw [decide_eq_false fun e => e2 (by rw [e])]
      refine NCall.call (h1) rfl rfl ?_
      refine NCall.call (h2) rfl rfl ?_
      exact NRet.mk [] rfl ⟨.refl _, rfl⟩
  · rw [decide_eq_false e1] at h1
    rw [decide_eq_false fun e => e1 (by rw [e])]
    refine NCall.call (h1) rfl rfl ?_
    exact NRet.mk [] rfl ⟨.refl _, rfl⟩
def shortS (s : Store) : Bool := decide (s.heard.length ≤ 60) && shortIs s.items
theorem short15_walk (s : Store) (h1 : s.heard.length ≤ 2 ^ 47) (h2 : s.items.length ≤ 2 ^ 47) (hx : ∀ x ∈ s.items, okItem x) : ACalls Tryz.prog Nm.ref15_Short [storeA s] [] (.bool (shortS s)) [] := by
  refine ACalls_of tab (dr_snd tab mixed) Nm.ref15_Short_h rfl (by kernel_rfl) (Nat.le_of_ble_eq_true rfl) rfl ?_
  have k1 := short9_walk s.items h2 hx
  unfold shortS
  by_cases h : s.heard.length ≤ 60
  · rw [decide_eq_true h, Bool.true_and]
    refine ND.yes (by (simp only [List.length_map, List.length_append, List.length_replicate, List.length_cons, List.length_nil, List.length_take, List.length_drop]; omega)) ?_
    refine NCall.call (k1) rfl rfl ?_
    exact NRet.mk [] rfl ⟨.refl _, rfl⟩
  · rw [decide_eq_false h, Bool.false_and]
    refine ND.no (by (simp only [List.length_map, List.length_append, List.length_replicate, List.length_cons, List.length_nil, List.length_take, List.length_drop]; omega)) ?_
    exact NRet.mk [] rfl ⟨.refl _, rfl⟩
end Go.Bv
namespace Go.Bv
open Go Go.Proofs
theorem ready_as {v : List Int} {f : Txn → Txn} (hf : ∀ t, (f t).node = t.node ∧ (f t).seq = t.seq ∧ (f t).deps = t.deps) (t : Txn) : ready v (f t) = ready v t := by
  obtain ⟨h1, h2, h3⟩ := hf t
  rw [Bool.eq_iff_iff, ready_iff, ready_iff, h1, h2, h3]
theorem next_as {v : List Int} {f : Txn → Txn} (hf : ∀ t, (f t).node = t.node ∧ (f t).seq = t.seq ∧ (f t).deps = t.deps) (t : Txn) : next v (f t) = next v t := by
  obtain ⟨h1, h2, h3⟩ := hf t
  by_cases h : okN t
  · rw [next_ok h, next_ok (show okN (f t) by unfold okN at *; rw [h1, h2]; exact h), h1, h2]
  · rw [next_bad h, next_bad (show ¬ okN (f t) by unfold okN at *; rw [h1, h2]; exact h)]
theorem takeN_map {f : Txn → Txn} (hf : ∀ t, (f t).node = t.node ∧ (f t).seq = t.seq ∧ (f t).deps = t.deps) : ∀ (n : Nat) (v : List Int) (l : List Txn), takeN n v (l.map f) = ((takeN n v l).1.map f, (takeN n v l).2)
  | 0, v, l => rfl
  | n + 1, v, l => by
    have hp : (ready v ∘ f) = ready v := funext fun t => ready_as hf t
    have h1 : (l.map f).find? (ready v) = (l.find? (ready v)).map f := by rw [List.find?_map, hp]
    have h2 : (l.map f).eraseP (ready v) = (l.eraseP (ready v)).map f := by rw [List.eraseP_map, hp]
    cases h : l.find? (ready v) with
    | none =>
      rw [h] at h1
      rw [takeN_none h, takeN_none h1]; rfl
    | some t =>
      rw [h] at h1
      rw [takeN_some h, takeN_some h1, h2, next_as hf, takeN_map hf n]; rfl
theorem takeT_map {f : Txn → Txn} (hf : ∀ t, (f t).node = t.node ∧ (f t).seq = t.seq ∧ (f t).deps = t.deps) (v : List Int) (l : List Txn) : takeT v (l.map f) = ((takeT v l).1.map f, (takeT v l).2) := by
  unfold takeT
  rw [List.length_map, takeN_map hf]
def underS (s : Store) (p : List UInt8 → Bool) : Store := ⟨s.heard, underI s.items p⟩
def keyI (t : Txn) (e : Eff) : Item := ⟨e.key, [], 0, [], 0, ⟨t.node, t.seq, e.at'⟩⟩
def keysT (t : Txn) : List Item := t.effs.map (keyI t)
def allK (X : List Item) (l : List Txn) : List Item := l.foldl (fun a t => a ++ keysT t) X
theorem mem_allK : ∀ (l : List Txn) (X : List Item) (y : Item), y ∈ allK X l ↔ y ∈ X ∨ ∃ t ∈ l, ∃ e ∈ t.effs, y = keyI t e
  | [], X, y => by simp [allK]
  | t :: l, X, y => by
    have ih := mem_allK l (X ++ keysT t) y
    unfold allK at *
    rw [List.foldl_cons, ih, List.mem_append, or_assoc]
    have hk : y ∈ keysT t ↔ ∃ e ∈ t.effs, y = keyI t e := by
      unfold keysT
      rw [List.mem_map]
      exact ⟨fun ⟨e, h1, h2⟩ => ⟨e, h1, h2.symm⟩, fun ⟨e, h1, h2⟩ => ⟨e, h1, h2.symm⟩⟩
    rw [hk]
    refine or_congr Iff.rfl ⟨?_, ?_⟩
    · rintro (h | ⟨t', h1, h2⟩)
      · exact ⟨t, List.mem_cons_self .., h⟩
      · exact ⟨t', List.mem_cons_of_mem _ h1, h2⟩
    · rintro ⟨t', h1, h2⟩
      rcases List.mem_cons.1 h1 with rfl | h1
      · exact .inl h2
      · exact .inr ⟨t', h1, h2⟩
def ownE (A : List Item) (e : Eff) : Bool := A.all fun a => !(decide (a.key ≠ e.key) && decide (a.dot ∈ e.drops))
def ownB (X : List Item) (l : List Txn) : Bool := l.all fun t => t.effs.all (ownE (allK X l))
theorem ownB_iff {X : List Item} {l : List Txn} (h : ownB X l = true) : ∀ t ∈ l, ∀ e ∈ t.effs, ∀ a ∈ allK X l, a.dot ∈ e.drops → a.key = e.key := fun t ht e he a ha hd => by
  unfold ownB at h
  rw [List.all_eq_true] at h
  have h := h t ht
  rw [List.all_eq_true] at h
  have h := h e he
  unfold ownE at h
  rw [List.all_eq_true] at h
  have h := h a ha
  simp only [Bool.not_eq_true', Bool.and_eq_false_iff, decide_eq_false_iff_not, ne_eq, Decidable.not_not] at h
  exact h.elim id fun h => absurd hd h
theorem pw_all {α : Type} {R : α → α → Prop} {l : List α} (h : ∀ a ∈ l, ∀ b ∈ l, R a b) : l.Pairwise R := by
  rw [List.pairwise_iff_getElem]
  intro i j hi hj _
  exact h _ (List.getElem_mem hi) _ (List.getElem_mem hj)
theorem doI_under {s : Store} {t : Txn} {A : List Item} {z : List (List UInt8)} (hs : soundS s = true) (hf : formed t = true) (hr : ready s.heard t = true) (hA : ∀ x ∈ s.items, ∃ a ∈ A, a.key = x.key ∧ a.dot = x.dot)
    (hT : ∀ e ∈ t.effs, keyI t e ∈ A) (ho : ∀ e ∈ t.effs, ∀ a ∈ A, a.dot ∈ e.drops → a.key = e.key) :
    underI (doI s.items t) (fun k => z.any (begins k)) = doI (underI s.items fun k => z.any (begins k)) (onlyT t z) := by
  obtain ⟨s1, s2, s3, s4⟩ := soundS_iff.1 hs
  unfold doI onlyT
  by_cases he : t.effs = []
  · rw [he]; rfl
  · refine (do_under s3 ?_ (ats_of (formed_right hf)) (ownKeys_pw (pw_all fun a ha b hb hd => ho b hb _ (hT a ha) hd)) (fun e he x hx hd => ?_) he).trans rfl
    · rw [← Bool.not_eq_true]
      intro h
      unfold hasI at h
      obtain ⟨x, hx, h⟩ := List.any_eq_true.1 h
      have h := of_decide_eq_true h
      have := (s4 x hx).2
      rw [h.1, h.2, ready_old hr] at this
      cases this
    · obtain ⟨a, ha, h1, h2⟩ := hA x hx
      rw [← h1]
      exact ho e he a ha (h2 ▸ hd)
theorem doAll_under {l : List Txn} {A : List Item} {z : List (List UInt8)} (hT : ∀ t ∈ l, ∀ e ∈ t.effs, keyI t e ∈ A) (ho : ∀ t ∈ l, ∀ e ∈ t.effs, ∀ a ∈ A, a.dot ∈ e.drops → a.key = e.key) :
    ∀ (c : List Txn) {s : Store}, soundS s = true → chain s.heard c = true → (∀ t ∈ c, formed t = true) → (∀ t ∈ c, t ∈ l) → (∀ x ∈ s.items, ∃ a ∈ A, a.key = x.key ∧ a.dot = x.dot) →
    underI (c.foldl doI s.items) (fun k => z.any (begins k)) = (c.map fun t => onlyT t z).foldl doI (underI s.items fun k => z.any (begins k))
  | [], s, _, _, _, _, _ => rfl
  | t :: c, s, hs, hc, hf, hl, hA => by
    obtain ⟨hr, hc'⟩ := (chain_cons s.heard t c).1 hc
    have ht := hf t (List.mem_cons_self ..)
    have htl := hl t (List.mem_cons_self ..)
    have hd := do_sound hs ht hr
    have ih := doAll_under (z := z) hT ho c (s := doT s t) hd hc' (fun t' ht' => hf t' (List.mem_cons_of_mem _ ht')) (fun t' ht' => hl t' (List.mem_cons_of_mem _ ht')) (fun x hx => by
      rcases do_mem hx with h | ⟨e, he, rfl⟩
      · exact hA x h
      · exact ⟨_, hT t htl e he, rfl, rfl⟩)
    rw [List.foldl_cons, List.map_cons, List.foldl_cons, ← doI_under hs ht hr hA (hT t htl) (ho t htl)]
    exact ih
theorem only_as (z : List (List UInt8)) (t : Txn) : (onlyT t z).node = t.node ∧ (onlyT t z).seq = t.seq ∧ (onlyT t z).deps = t.deps := ⟨rfl, rfl, rfl⟩
def partT (l : List Txn) (z : List (List UInt8)) : List Txn := (l.filter okT).map fun t => onlyT t z
/-- What stands under a zone behind transactions is what their effects under it make of what stood there. -/
theorem store_under {s : Store} {l : List Txn} {z : List (List UInt8)} (hs : soundS s = true) (ho : ownB s.items l = true) :
    underS (allS s l).1 (fun k => z.any (begins k)) = (allS (underS s fun k => z.any (begins k)) (partT l z)).1 := by
  have hp : (partT l z).filter okT = partT l z := filter_formed fun t ht => by
    obtain ⟨t0, h0, rfl⟩ := List.mem_map.1 ht
    exact formed_only (okT_mem t0 h0) z
  have ho' := ownB_iff ho
  have hd := doAll_under (l := l) (A := allK s.items l) (z := z) (fun t ht e he => (mem_allK l s.items _).2 (.inr ⟨t, ht, e, he, rfl⟩)) ho' (takeT s.heard (l.filter okT)).1 hs (takeT_chain _ _) done_formed
    (fun t ht => (List.mem_filter.1 (takeT_mem ht)).1) (fun x hx => ⟨x, (mem_allK l s.items x).2 (.inl hx), rfl, rfl⟩)
  rw [allS_eq, allS_eq, hp]
  unfold partT underS
  rw [takeT_map (only_as z)]
  simp only
  rw [hd]
end Go.Bv
namespace Go.Bv
set_option linter.unusedSimpArgs false
set_option linter.unusedVariables false
set_option maxHeartbeats 4000000
set_option maxRecDepth 20000
open Go Go.Proofs
theorem underF_walk (z : List (List UInt8)) (x : Item) (hz : z.length ≤ 2 ^ 40) (hx : smItem x) : ACalls Tryz.prog Nm.item_Under_1 [itemA x, .ptr 0 0 0] [.row .box .leaf [.list .leaf (z.map AV.str)]] (.bool (!z.any (begins x.key))) [.row .box .leaf [.list .leaf (z.map AV.str)]] := by
  refine ACalls_of tab (dr_snd tab mixed) Nm.item_Under_1_h rfl (by kernel_rfl) (Nat.le_of_ble_eq_true rfl) rfl ?_
  have k1 := covers_walk z x.key hz (by have := hx.1; omega)
  refine NCall.call (k1) rfl rfl ?_
  refine NB.mk (fun hk1 => ?_) (fun hk1 => ?_)
  · refine NRet.boolE (b := false) ?_ (NRet.mk [] rfl ⟨.refl _, rfl⟩)
    (simp [*]; done)
  refine NRet.boolE (b := true) ?_ (NRet.mk [] rfl ⟨.refl _, rfl⟩)
  (simp [*]; done)
theorem itemUnder_walk (l : List Item) (z : List (List UInt8)) (hl : l.length ≤ 2 ^ 38) (hz : z.length ≤ 2 ^ 40) (hx : ∀ x ∈ l, smItem x) : ACalls Tryz.prog Nm.item_Under [itemsA l, strsA z] [] (itemsA (underI l fun k => z.any (begins k))) [] := by
  refine ACalls_of tab (dr_snd tab mixed) Nm.item_Under_h rfl (by kernel_rfl) (Nat.le_of_ble_eq_true rfl) rfl ?_
  have k1 := cloneI_walk l hl
  have k2 := deleteM_walk Nm.item_Under_1 .leaf (z.map AV.str) (fun _ x => !z.any (begins x.key)) l hl (fun _ x hm => underF_walk z x hz (hx x hm))
  have e : keepD (fun _ x => !z.any (begins x.key)) l = underI l fun k => z.any (begins k) := by
    rw [keepD_filter]
    unfold underI
    congr 1; funext x
    rw [Bool.not_not]
  rw [e] at k2
  have hle : (underI l fun k => z.any (begins k)).length ≤ l.length := List.length_filter_le _ _
  generalize (underI l fun k => z.any (begins k)) = R at *
  refine NCall.atA (ACalls.frame (k1) rfl _) ?_
  refine NCall.subA [1, 0] (k2) ?_
  exact NRet.mk [] rfl (NFrz.mk (R.map itemA) (by simp) (by rw [List.drop_zero, List.take_append_of_le_length (by simp), List.take_of_length_le (by simp)]) ⟨.refl _, rfl⟩)
theorem storeUnderS_walk (s : Store) (z : List (List UInt8)) (hs : smS s) (hz : z.length ≤ 2 ^ 40) : ACalls Tryz.prog Nm.store_Under [storeA s, strsA z] [] (storeA (underS s fun k => z.any (begins k))) [] := by
  refine ACalls_of tab (dr_snd tab mixed) Nm.store_Under_h rfl (by kernel_rfl) (Nat.le_of_ble_eq_true rfl) rfl ?_
  have k1 := cloneV_list s.heard (by have := hs.1; omega)
  have k2 := itemUnder_walk s.items z (by have := hs.2.1; omega) hz hs.2.2
  refine NP.mk (by kernel_rfl) ?_
  apply NDr.rd [0]
  · intro fH TH
    exact ⟨rfl, rfl⟩
  apply NDr.rd [0]
  · intro fH TH
    exact ⟨rfl, rfl⟩
  apply NDr.pure
  · refine NCall.call (k1) rfl rfl ?_
    exact ⟨rfl, rfl⟩
  apply NDr.rd [0]
  · intro fH TH
    exact ⟨rfl, rfl⟩
  apply NDr.rd [0]
  · intro fH TH
    exact ⟨rfl, rfl⟩
  apply NDr.pure
  · exact ⟨rfl, rfl⟩
  apply NDr.pure
  · refine NCall.call (k2) rfl rfl ?_
    exact ⟨rfl, rfl⟩
  apply NDr.pure
  · exact ⟨rfl, rfl⟩
  apply NDr.efw [1]
  · exact ⟨rfl, rfl⟩
  · repeat (first | exact True.intro | refine ⟨by first | exact rfl | exact True.intro, ?_⟩)
  refine NP.mk (by kernel_rfl) ?_
  exact NRet.mk [] rfl ⟨.refl _, rfl⟩
end Go.Bv
namespace Go.Bv
set_option linter.unusedSimpArgs false
set_option linter.unusedVariables false
set_option maxHeartbeats 4000000
set_option maxRecDepth 20000
open Go Go.Proofs
theorem copy9_own (l : List Item) (hl : l.length ≤ 2 ^ 38) : ACalls Tryz.prog Nm.ref09_Copy [itemsA l] [] (.own 0 0 l.length) [.row .vrow (.agg 8) (l.map itemA)] := by
  refine ACalls_of tab (dr_snd tab mixed) Nm.ref09_Copy_h rfl (by kernel_rfl) (Nat.le_of_ble_eq_true rfl) rfl ?_
  refine NFz.own ?_
  refine NApp.endA rfl (by simp; omega) ?_
  exact NRet.mk [1] rfl ⟨by rw [List.length_map]; exact .refl _, rfl⟩
theorem allK_snoc (X : List Item) {l : List Txn} {i : Nat} (h : i < l.length) : allK X (l.take (i + 1)) = allK X (l.take i) ++ keysT l[i] := by
  unfold allK
  rw [List.take_succ_eq_append_getElem h, List.foldl_append]; rfl
theorem allK_len : ∀ (l : List Txn) (X : List Item), (∀ t ∈ l, t.effs.length ≤ 20) → (allK X l).length ≤ X.length + 20 * l.length
  | [], X, _ => by simp [allK]
  | t :: l, X, h => by
    have ih := allK_len l (X ++ keysT t) fun t' ht' => h t' (List.mem_cons_of_mem _ ht')
    have h1 := h t (List.mem_cons_self ..)
    have hk : (keysT t).length = t.effs.length := by unfold keysT; rw [List.length_map]
    unfold allK at *
    rw [List.foldl_cons, List.length_cons]
    rw [List.length_append] at ih
    omega
theorem own15_walk (X : List Item) (l : List Txn) (hX : X.length ≤ 60) (hl : l.length ≤ 24) (hx : ∀ t ∈ l, smTxn t) (hn : ∀ t ∈ l, t.effs.length ≤ 20) : ACalls Tryz.prog Nm.law15_own [itemsA X, txnsA l] [] (.bool (ownB X l)) [] := by
  refine ACalls_of tab (dr_snd tab mixed) Nm.law15_own_h rfl (by kernel_rfl) (Nat.le_of_ble_eq_true rfl) rfl ?_
  have k0 := copy9_own X (by omega)
  refine NCall.atA (ACalls.frame (k0) rfl _) ?_
  refine NLoop.mk [] [1, 5, 6] (fun m vs H => ∃ i, i ≤ l.length ∧ m = l.length - i ∧ H = [.row .vrow (.agg 8) ((allK X (l.take i)).map itemA)] ∧ vs = [txnsA l, .own 0 0 ((allK X (l.take i)).map itemA).length, i64 i]) rfl ?_ ?_
  · exact Canon.mk [0] rfl ⟨l.length, 0, Nat.zero_le _, rfl, rfl, by simp [allK, txnsA, i64]⟩
  rintro m vs H ⟨i, hi, rfl, rfl, rfl⟩
  by_cases hil : i < l.length
  · have hsn := allK_snoc X hil
    have hal := allK_len (l.take i) X (fun t ht => hn t (List.mem_of_mem_take ht))
    rw [List.length_take] at hal
    have hni := hn _ (List.getElem_mem hil)
    generalize allK X (l.take i) = A at *
    refine ND.yes (by (simp only [List.length_map, List.length_append, List.length_replicate, List.length_cons, List.length_nil, List.length_take, List.length_drop]; omega)) ?_
    refine NLoop.mk [] [1, 5, 6, 7] (fun m vs H => ∃ k, k ≤ l[i].effs.length ∧ m = l[i].effs.length - k ∧ H = [.row .vrow (.agg 8) ((A ++ (l[i].effs.take k).map (keyI l[i])).map itemA)] ∧ vs = [txnsA l, .own 0 0 ((A ++ (l[i].effs.take k).map (keyI l[i])).map itemA).length, i64 i, i64 k]) rfl ?_ ?_
    · exact Canon.mk [0] rfl ⟨l[i].effs.length, 0, Nat.zero_le _, rfl, by simp, by simp [txnsA, i64]⟩
    rintro m vs H ⟨k, hk, rfl, rfl, rfl⟩
    by_cases hkl : k < l[i].effs.length
    · have hks : A ++ (l[i].effs.take (k + 1)).map (keyI l[i]) = (A ++ (l[i].effs.take k).map (keyI l[i])) ++ [keyI l[i] l[i].effs[k]] := by
        rw [List.take_succ_eq_append_getElem hkl, List.map_append, List.append_assoc]; rfl
      have hBl : (A ++ (l[i].effs.take k).map (keyI l[i])).length ≤ 1000 := by rw [List.length_append, List.length_map, List.length_take]; omega
      generalize A ++ (l[i].effs.take k).map (keyI l[i]) = B at *
      refine NP.mk (by omega) ?_
      refine NG.mapN (by omega) ?_
      refine ND.yes (by (simp only [List.length_map, List.length_append, List.length_replicate, List.length_cons, List.length_nil, List.length_take, List.length_drop]; omega)) ?_
      refine NP.mk (by omega) ?_
      refine NG.mapN (by omega) ?_
      refine NP.mk (by omega) ?_
      refine NG.mapN (by omega) ?_
      refine NP.mk (by kernel_rfl) ?_
      apply NDr.any
      · intro H'
        exact ⟨rfl, rfl⟩
      apply NDr.rd [1]
      · intro fH TH
        exact ⟨rfl, rfl⟩
      apply NDr.rd [1]
      · intro fH TH
        exact ⟨rfl, rfl⟩
      apply NDr.pure
      · exact ⟨rfl, rfl⟩
      apply NDr.pure
      · exact ⟨rfl, rfl⟩
      apply NDr.pure
      · refine NP.mk (by omega) ?_
        refine NG.mapN (by omega) ?_
        exact ⟨rfl, rfl⟩
      apply NDr.pure
      · exact ⟨rfl, rfl⟩
      apply NDr.pure
      · exact ⟨rfl, rfl⟩
      apply NDr.pure
      · exact ⟨rfl, rfl⟩
      apply NDr.pure
      · exact ⟨rfl, rfl⟩
      apply NDr.pure
      · refine NP.mk (by omega) ?_
        refine NG.mapN (by omega) ?_
        exact ⟨rfl, rfl⟩
      apply NDr.pure
      · exact ⟨rfl, rfl⟩
      apply NDr.pure
      · exact ⟨rfl, rfl⟩
      apply NDr.rd [1]
      · intro fH TH
        exact ⟨rfl, rfl⟩
      apply NDr.rd [1]
      · intro fH TH
        exact ⟨rfl, rfl⟩
      apply NDr.pure
      · exact ⟨rfl, rfl⟩
      apply NDr.pure
      · exact ⟨rfl, rfl⟩
      apply NDr.pure
      · exact ⟨rfl, rfl⟩
      apply NDr.efw [0]
      · refine NFz.own ?_
        refine NApp.endA rfl (by simp; omega) ?_
        exact ⟨rfl, rfl⟩
      · repeat (first | exact True.intro | refine ⟨by first | exact rfl | exact True.intro, ?_⟩)
      apply NDr.any
      · intro H'
        exact ⟨rfl, rfl⟩
      refine NP.mk (by kernel_rfl) ?_
      refine NW.i64 (by omega) (by omega) ?_
      exact Canon.mk [2] rfl ⟨l[i].effs.length - (k + 1), by omega, k + 1, by omega, rfl, by rw [hks, List.map_append]; rfl, by rw [hks, List.map_append]; rfl⟩
    have : k = l[i].effs.length := by omega
    subst this
    rw [List.take_length]
    have hks : allK X (l.take (i + 1)) = A ++ l[i].effs.map (keyI l[i]) := hsn
    rw [← hks]
    refine NP.mk (by omega) ?_
    refine NG.mapN (by omega) ?_
    refine ND.no (by (simp only [List.length_map, List.length_append, List.length_replicate, List.length_cons, List.length_nil, List.length_take, List.length_drop]; omega)) ?_
    refine NW.i64 (by omega) (by omega) ?_
    exact Canon.mk [0] rfl ⟨l.length - (i + 1), by omega, i + 1, by omega, rfl, rfl, rfl⟩
  have : i = l.length := by omega
  subst this
  rw [List.take_length]
  have hal := allK_len l X hn
  unfold ownB
  generalize allK X l = A at *
  refine ND.no (by (simp only [List.length_map, List.length_append, List.length_replicate, List.length_cons, List.length_nil, List.length_take, List.length_drop]; omega)) ?_
  refine NLoop.mk [] [1, 5, 9] (fun m vs H => ∃ i, i ≤ l.length ∧ m = l.length - i ∧ Hid (∀ t ∈ l.take i, (t.effs.all (ownE A)) = true) ∧ H = [] ∧ vs = [txnsA l, itemsA A, i64 i]) rfl ?_ ?_
  · exact Canon.mk [] rfl (NFrz.mk (A.map itemA) (by simp) (by rw [List.drop_zero, List.take_of_length_le (by simp)]) ⟨l.length, 0, Nat.zero_le _, rfl, hid_zero, rfl, rfl⟩)
  rintro m vs H ⟨i, hi, rfl, ht, rfl, rfl⟩
  by_cases hil : i < l.length
  · obtain ⟨f1, f2⟩ := all_step (p := fun t : Txn => t.effs.all (ownE A)) hil ht
    have hni := hn _ (List.getElem_mem hil)
    have hsi := (hx _ (List.getElem_mem hil)).2.2.2
    refine ND.yes (by (simp only [List.length_map, List.length_append, List.length_replicate, List.length_cons, List.length_nil, List.length_take, List.length_drop]; omega)) ?_
    refine NLoop.mk [] [1, 5, 9, 10] (fun m vs H => ∃ k, k ≤ l[i].effs.length ∧ m = l[i].effs.length - k ∧ Hid (∀ e ∈ l[i].effs.take k, ownE A e = true) ∧ H = [] ∧ vs = [txnsA l, itemsA A, i64 i, i64 k]) rfl ?_ ?_
    · exact Canon.mk [] rfl ⟨l[i].effs.length, 0, Nat.zero_le _, rfl, hid_zero, rfl, rfl⟩
    rintro m vs H ⟨k, hk, rfl, hu, rfl, rfl⟩
    by_cases hkl : k < l[i].effs.length
    · obtain ⟨g1, g2⟩ := all_step (p := ownE A) hkl hu
      have hdl := (hsi _ (List.getElem_mem hkl)).2.2.2
      refine NP.mk (by omega) ?_
      refine NG.mapN (by omega) ?_
      refine ND.yes (by (simp only [List.length_map, List.length_append, List.length_replicate, List.length_cons, List.length_nil, List.length_take, List.length_drop]; omega)) ?_
      refine NLoop.mk [] [1, 5, 9, 10, 11] (fun m vs H => ∃ j, j ≤ A.length ∧ m = A.length - j ∧ Hid (∀ a ∈ A.take j, (!(decide (a.key ≠ l[i].effs[k].key) && decide (a.dot ∈ l[i].effs[k].drops))) = true) ∧ H = [] ∧ vs = [txnsA l, itemsA A, i64 i, i64 k, i64 j]) rfl ?_ ?_
      · exact Canon.mk [] rfl ⟨A.length, 0, Nat.zero_le _, rfl, hid_zero, rfl, rfl⟩
      rintro m vs H ⟨j, hj, rfl, hw, rfl, rfl⟩
      by_cases hjl : j < A.length
      · obtain ⟨q1, q2⟩ := all_step (p := fun a : Item => !(decide (a.key ≠ l[i].effs[k].key) && decide (a.dot ∈ l[i].effs[k].drops))) hjl hw
        have k2 := is9_walk l[i].effs[k].drops A[j].dot hdl
        by_cases hke : A[j].key = l[i].effs[k].key
        · have q2 : Hid _ := q2 (by rw [decide_eq_false (fun h => h hke)]; rfl)
          clear f1 f2 g1 g2 q1
          refine ND.yes (by (simp only [List.length_map, List.length_append, List.length_replicate, List.length_cons, List.length_nil, List.length_take, List.length_drop]; omega)) ?_
          refine NP.mk (by kernel_rfl) ?_
          apply NDr.pure
          · exact ⟨rfl, rfl⟩
          apply NDr.pure
          · exact ⟨rfl, rfl⟩
          apply NDr.pure
          · refine NP.mk (by omega) ?_
            refine NG.mapN (by omega) ?_
            exact ⟨rfl, rfl⟩
          apply NDr.pure
          · exact ⟨rfl, rfl⟩
          apply NDr.pure
          · exact ⟨rfl, rfl⟩
          apply NDr.pure
          · exact ⟨rfl, rfl⟩
          apply NDr.pure
          · exact ⟨rfl, rfl⟩
          apply NDr.pure
          · refine NP.mk (by omega) ?_
            refine NG.mapN (by omega) ?_
            exact ⟨rfl, rfl⟩
          apply NDr.pure
          · exact ⟨rfl, rfl⟩
          apply NDr.pure
          · exact ⟨rfl, rfl⟩
          apply NDr.pure
          · exact ⟨rfl, rfl⟩
          apply NDr.pure
          · refine NP.mk (by omega) ?_
            refine NG.mapN (by omega) ?_
            exact ⟨rfl, rfl⟩
          apply NDr.pure
          · exact ⟨rfl, rfl⟩
          apply NDr.pure
          · exact ⟨rfl, rfl⟩
          apply NDr.pure
          · refine ND.yes (by omega) ?_
            exact ⟨rfl, rfl⟩
          apply NDr.pure
          · exact ⟨rfl, rfl⟩
          apply NDr.pure
          · exact ⟨rfl, rfl⟩
          refine NP.mk (by kernel_rfl) ?_
          refine NW.i64 (by omega) (by omega) ?_
          exact Canon.mk [] rfl ⟨A.length - (j + 1), by omega, j + 1, by omega, rfl, q2, rfl, rfl⟩
        · by_cases hd : A[j].dot ∈ l[i].effs[k].drops
          · have g1 := g1 (by unfold ownE; exact q1 (by rw [decide_eq_true hke, decide_eq_true hd]; rfl))
            rw [f1 (List.all_eq_false.2 ⟨_, List.getElem_mem hkl, by rw [show ownE A l[i].effs[k] = false from (by unfold ownE; exact q1 (by rw [decide_eq_true hke, decide_eq_true hd]; rfl))]; simp⟩)]
            rw [decide_eq_true hd] at k2
            clear f1 f2 g1 g2 q1 q2
            refine ND.yes (by (simp only [List.length_map, List.length_append, List.length_replicate, List.length_cons, List.length_nil, List.length_take, List.length_drop]; omega)) ?_
            refine NP.mk (by kernel_rfl) ?_
            apply NDr.pure
            · exact ⟨rfl, rfl⟩
            apply NDr.pure
            · exact ⟨rfl, rfl⟩
            apply NDr.pure
            · refine NP.mk (by omega) ?_
              refine NG.mapN (by omega) ?_
              exact ⟨rfl, rfl⟩
            apply NDr.pure
            · exact ⟨rfl, rfl⟩
            apply NDr.pure
            · exact ⟨rfl, rfl⟩
            apply NDr.pure
            · exact ⟨rfl, rfl⟩
            apply NDr.pure
            · exact ⟨rfl, rfl⟩
            apply NDr.pure
            · refine NP.mk (by omega) ?_
              refine NG.mapN (by omega) ?_
              exact ⟨rfl, rfl⟩
            apply NDr.pure
            · exact ⟨rfl, rfl⟩
            apply NDr.pure
            · exact ⟨rfl, rfl⟩
            apply NDr.pure
            · exact ⟨rfl, rfl⟩
            apply NDr.pure
            · refine NP.mk (by omega) ?_
              refine NG.mapN (by omega) ?_
              exact ⟨rfl, rfl⟩
            apply NDr.pure
            · exact ⟨rfl, rfl⟩
            apply NDr.pure
            · exact ⟨rfl, rfl⟩
            apply NDr.pure
            · refine ND.no (by omega) ?_
              exact ⟨rfl, rfl⟩
            apply NDr.pure
            · exact ⟨rfl, rfl⟩
            apply NDr.pure
            · exact ⟨rfl, rfl⟩
            apply NDr.pure
            · exact ⟨rfl, rfl⟩
            apply NDr.pure
            · refine NP.mk (by omega) ?_
              refine NG.mapN (by omega) ?_
              exact ⟨rfl, rfl⟩
            apply NDr.pure
            · exact ⟨rfl, rfl⟩
            apply NDr.pure
            · exact ⟨rfl, rfl⟩
            apply NDr.pure
            · exact ⟨rfl, rfl⟩
            apply NDr.pure
            · refine NP.mk (by omega) ?_
              refine NG.mapN (by omega) ?_
              exact ⟨rfl, rfl⟩
            apply NDr.pure
            · exact ⟨rfl, rfl⟩
            apply NDr.pure
            · exact ⟨rfl, rfl⟩
            apply NDr.pure
            · exact ⟨rfl, rfl⟩
            apply NDr.pure
            · exact ⟨rfl, rfl⟩
            apply NDr.pure
            · refine NP.mk (by omega) ?_
              refine NG.mapN (by omega) ?_
              exact ⟨rfl, rfl⟩
            apply NDr.pure
            · exact ⟨rfl, rfl⟩
            apply NDr.pure
            · exact ⟨rfl, rfl⟩
            apply NDr.pure
            · refine NCall.call (k2) rfl rfl ?_
              exact ⟨rfl, rfl⟩
            apply NDr.pure
            · exact ⟨rfl, rfl⟩
            refine NP.mk (by kernel_rfl) ?_
            exact NRet.mk [] rfl ⟨.refl _, rfl⟩
          · rw [decide_eq_false hd] at k2
            have q2 : Hid _ := q2 (by rw [decide_eq_false hd, Bool.and_false]; rfl)
            clear f1 f2 g1 g2 q1
            refine ND.yes (by (simp only [List.length_map, List.length_append, List.length_replicate, List.length_cons, List.length_nil, List.length_take, List.length_drop]; omega)) ?_
            refine NP.mk (by kernel_rfl) ?_
            apply NDr.pure
            · exact ⟨rfl, rfl⟩
            apply NDr.pure
            · exact ⟨rfl, rfl⟩
            apply NDr.pure
            · refine NP.mk (by omega) ?_
              refine NG.mapN (by omega) ?_
              exact ⟨rfl, rfl⟩
            apply NDr.pure
            · exact ⟨rfl, rfl⟩
            apply NDr.pure
            · exact ⟨rfl, rfl⟩
            apply NDr.pure
            · exact ⟨rfl, rfl⟩
            apply NDr.pure
            · exact ⟨rfl, rfl⟩
            apply NDr.pure
            · refine NP.mk (by omega) ?_
              refine NG.mapN (by omega) ?_
              exact ⟨rfl, rfl⟩
            apply NDr.pure
            · exact ⟨rfl, rfl⟩
            apply NDr.pure
            · exact ⟨rfl, rfl⟩
            apply NDr.pure
            · exact ⟨rfl, rfl⟩
            apply NDr.pure
            · refine NP.mk (by omega) ?_
              refine NG.mapN (by omega) ?_
              exact ⟨rfl, rfl⟩
            apply NDr.pure
            · exact ⟨rfl, rfl⟩
            apply NDr.pure
            · exact ⟨rfl, rfl⟩
            apply NDr.pure
            · refine ND.no (by omega) ?_
              exact ⟨rfl, rfl⟩
            apply NDr.pure
            · exact ⟨rfl, rfl⟩
            apply NDr.pure
            · exact ⟨rfl, rfl⟩
            apply NDr.pure
            · exact ⟨rfl, rfl⟩
            apply NDr.pure
            · refine NP.mk (by omega) ?_
              refine NG.mapN (by omega) ?_
              exact ⟨rfl, rfl⟩
            apply NDr.pure
            · exact ⟨rfl, rfl⟩
            apply NDr.pure
            · exact ⟨rfl, rfl⟩
            apply NDr.pure
            · exact ⟨rfl, rfl⟩
            apply NDr.pure
            · refine NP.mk (by omega) ?_
              refine NG.mapN (by omega) ?_
              exact ⟨rfl, rfl⟩
            apply NDr.pure
            · exact ⟨rfl, rfl⟩
            apply NDr.pure
            · exact ⟨rfl, rfl⟩
            apply NDr.pure
            · exact ⟨rfl, rfl⟩
            apply NDr.pure
            · exact ⟨rfl, rfl⟩
            apply NDr.pure
            · refine NP.mk (by omega) ?_
              refine NG.mapN (by omega) ?_
              exact ⟨rfl, rfl⟩
            apply NDr.pure
            · exact ⟨rfl, rfl⟩
            apply NDr.pure
            · exact ⟨rfl, rfl⟩
            apply NDr.pure
            · refine NCall.call (k2) rfl rfl ?_
              exact ⟨rfl, rfl⟩
            apply NDr.pure
            · exact ⟨rfl, rfl⟩
            refine NP.mk (by kernel_rfl) ?_
            refine NW.i64 (by omega) (by omega) ?_
            exact Canon.mk [] rfl ⟨A.length - (j + 1), by omega, j + 1, by omega, rfl, q2, rfl, rfl⟩
      have : j = A.length := by omega
      subst this
      have g2 : Hid _ := g2 (all_end hw)
      clear f1 f2 g1
      refine ND.no (by (simp only [List.length_map, List.length_append, List.length_replicate, List.length_cons, List.length_nil, List.length_take, List.length_drop]; omega)) ?_
      refine NW.i64 (by omega) (by omega) ?_
      exact Canon.mk [] rfl ⟨l[i].effs.length - (k + 1), by omega, k + 1, by omega, rfl, g2, rfl, rfl⟩
    have : k = l[i].effs.length := by omega
    subst this
    have f2 : Hid _ := f2 (all_end hu)
    clear f1
    refine NP.mk (by omega) ?_
    refine NG.mapN (by omega) ?_
    refine ND.no (by (simp only [List.length_map, List.length_append, List.length_replicate, List.length_cons, List.length_nil, List.length_take, List.length_drop]; omega)) ?_
    refine NW.i64 (by omega) (by omega) ?_
    exact Canon.mk [] rfl ⟨l.length - (i + 1), by omega, i + 1, by omega, rfl, f2, rfl, rfl⟩
  have : i = l.length := by omega
  subst this
  rw [all_end ht]
  refine ND.no (by (simp only [List.length_map, List.length_append, List.length_replicate, List.length_cons, List.length_nil, List.length_take, List.length_drop]; omega)) ?_
  exact NRet.mk [] rfl ⟨.refl _, rfl⟩
end Go.Bv
namespace Go.Bv
set_option linter.unusedSimpArgs false
set_option linter.unusedVariables false
set_option maxHeartbeats 4000000
open Go Go.Proofs
theorem shortT_sm {l : List Txn} (h : shortT l = true) (ho : ∀ t ∈ l, okTxn t) : l.length ≤ 24 ∧ ∀ t ∈ l, smTxn t := by
  unfold shortT at h
  rw [Bool.and_eq_true, List.all_eq_true] at h
  refine ⟨of_decide_eq_true h.1, fun t ht => ?_⟩
  have := h.2 t ht
  rw [Bool.and_eq_true] at this
  obtain ⟨h1, h2⟩ := this
  have h1 := of_decide_eq_true h1
  unfold shortEs at h2
  rw [Bool.and_eq_true, List.all_eq_true] at h2
  have h3 := of_decide_eq_true h2.1
  refine ⟨(ho t ht).2.1, by omega, by omega, fun e he => ?_⟩
  have := of_decide_eq_true (h2.2 e he)
  exact ⟨by omega, by omega, by omega, by omega⟩
end Go.Bv
namespace Go.Bv
set_option linter.unusedSimpArgs false
set_option linter.unusedVariables false
set_option maxHeartbeats 4000000
open Go Go.Proofs
end Go.Bv
namespace Go.Bv
set_option linter.unusedSimpArgs false
set_option linter.unusedVariables false
set_option maxHeartbeats 4000000
set_option maxRecDepth 20000
open Go Go.Proofs
theorem shortT_effs {l : List Txn} (h : shortT l = true) : ∀ t ∈ l, t.effs.length ≤ 20 := fun t ht => by
  unfold shortT at h
  rw [Bool.and_eq_true, List.all_eq_true] at h
  have := h.2 t ht
  rw [Bool.and_eq_true] at this
  have h2 := this.2
  unfold shortEs at h2
  rw [Bool.and_eq_true] at h2
  exact of_decide_eq_true h2.1
theorem shortIs_sm {l : List Item} (h : shortIs l = true) : l.length ≤ 60 ∧ ∀ e ∈ l, smItem e := by
  unfold shortIs at h
  rw [Bool.and_eq_true, List.all_eq_true] at h
  refine ⟨of_decide_eq_true h.1, fun e he => ?_⟩
  have := of_decide_eq_true (h.2 e he)
  exact ⟨by omega, by omega, by omega⟩
theorem shortS_sm {s : Store} (h : shortS s = true) : s.heard.length ≤ 60 ∧ s.items.length ≤ 60 ∧ ∀ x ∈ s.items, smItem x := by
  unfold shortS at h
  rw [Bool.and_eq_true] at h
  exact ⟨of_decide_eq_true h.1, shortIs_sm h.2⟩
def p15 (n : Int) : Txn := ⟨n, 1, [], [⟨0, [97], [], 2, [120], 0, []⟩]⟩
def i15 (n : Int) : Item := ⟨[97], [], 2, [120], 0, ⟨n, 1, 0⟩⟩
theorem do15 : [p15 1, p15 0].foldl doI [] = [i15 0, i15 1] := by
  have e1 : doI [] (p15 1) = [i15 1] := by
    show norm (rawE 1 1 [] ⟨0, [97], [], 2, [120], 0, []⟩) = _
    rw [show rawE 1 1 [] ⟨0, [97], [], 2, [120], 0, []⟩ = [i15 1] by decide]
    exact norm_self (by simp) (by simp)
  have e2 : doI [i15 1] (p15 0) = [i15 0, i15 1] := by
    show norm (rawE 0 1 [i15 1] ⟨0, [97], [], 2, [120], 0, []⟩) = _
    rw [show rawE 0 1 [i15 1] ⟨0, [97], [], 2, [120], 0, []⟩ = [i15 1, i15 0] by decide]
    rw [norm_congr (m := [i15 0, i15 1]) (fun x => by simp [or_comm])]
    refine norm_self ?_ ?_
    · simp only [List.pairwise_cons, List.mem_cons, List.not_mem_nil, or_false, forall_eq, false_implies, implies_true, List.Pairwise.nil, and_true]
      exact of_decide_eq_true (by decide : decide (ILt (i15 0) (i15 1)) = true)
    · simp only [List.pairwise_cons, List.mem_cons, List.not_mem_nil, or_false, forall_eq, false_implies, implies_true, List.Pairwise.nil, and_true]
      decide
  rw [List.foldl_cons, e1, List.foldl_cons, e2, List.foldl_nil]
theorem all15 : allS ⟨[], []⟩ [p15 1, p15 0] = (⟨[1, 1], [i15 0, i15 1]⟩, [p15 1, p15 0]) := by
  rw [allS_eq]
  simp only
  rw [show [p15 1, p15 0].filter okT = [p15 1, p15 0] by kernel_rfl, takeT_of_chain (by kernel_rfl)]
  simp only [do15]
  rfl
theorem sound15 : soundS ⟨[1, 1], [i15 0, i15 1]⟩ = true := by
  have h0 : soundS ⟨[], []⟩ = true := soundS_iff.2 ⟨by simp, ⟨rfl, by simp⟩, by unfold norm isort; simp [nubF], by simp⟩
  have := (all_sound h0 [p15 1, p15 0]).1
  rwa [all15] at this
theorem put15 (n : Int) : ACalls Tryz.prog Nm.law15_awake_1 [i64 n] [] (txnA (p15 n)) [] := by
  refine ACalls_of tab (dr_snd tab mixed) Nm.law15_awake_1_h rfl (by kernel_rfl) (Nat.le_of_ble_eq_true rfl) rfl ?_
  skip
  refine NRet.mk [] rfl ⟨?_, rfl⟩
  show LeA (.agg [i64 n, i64 1, .nils, .list (.agg 7) [.agg [i64 0, .str [97], .str [], i64 2, .str [120], i64 0, .nils]]]) (.agg [i64 n, i64 1, .list .leaf [], .list (.agg 7) [.agg [i64 0, .str [97], .str [], i64 2, .str [120], i64 0, .list (.agg 3) []]]])
  repeat (first | exact LeA.refl _ | exact LeA.nils _ | refine LeA.agg ?_ | refine LeA.list _ ?_ | exact LeAs.nil | refine LeAs.cons ?_ ?_)
theorem awake15 : ACalls Tryz.prog Nm.law15_awake [] [] (.bool true) [] := by
  refine ACalls_of tab (dr_snd tab mixed) Nm.law15_awake_h rfl (by kernel_rfl) (Nat.le_of_ble_eq_true rfl) rfl ?_
  have h1 := storeAll_walk ⟨[], []⟩ [p15 1, p15 0] ⟨by simp, by simp, by simp⟩ (by simp) (by simp [smTxn, okInt, p15, smEff]) (by simp)
  rw [all15] at h1
  have h2 := sound_walk ⟨[1, 1], [i15 0, i15 1]⟩ ⟨by simp, by simp, by simp [smItem, i15]⟩
  rw [sound15] at h2
  refine NCall.call (put15 1) rfl rfl ?_
  refine NCall.call (put15 0) rfl rfl ?_
  refine NCall.call (ACalls.args (h1) (by repeat (first | exact LeA.refl _ | exact LeA.nils _ | refine LeA.agg ?_ | refine LeA.list _ ?_ | exact LeAs.nil | refine LeAs.cons ?_ ?_))) rfl rfl ?_
  refine ND.yes (by rfl) ?_
  refine ND.yes (by rfl) ?_
  refine NP.mk (by omega) ?_
  refine NG.mapN (by (simp only [List.length_map, List.length_append, List.length_replicate, List.length_cons, List.length_nil, List.length_take, List.length_drop]; omega)) ?_
  refine ND.yes (by rfl) ?_
  refine NCall.call (h2) rfl rfl ?_
  exact NRet.mk [] rfl ⟨.refl _, rfl⟩
theorem okS {s : Store} (h : okStore s) : s.heard.length ≤ 2 ^ 47 ∧ s.items.length ≤ 2 ^ 47 := by
  have h1 := reach_lt h.1.1
  have h2 := reach_lt h.2.1
  omega
theorem done_len (s : Store) (l : List Txn) : (allS s l).2.length ≤ l.length := by
  unfold allS
  have h3 := takeT_len s.heard (l.filter okT)
  have h4 := List.length_filter_le okT l
  simp only; omega
theorem allS_sm {s : Store} {l : List Txn} (h : s.heard.length ≤ 2 ^ 38 ∧ s.items.length ≤ 40000 ∧ ∀ x ∈ s.items, smItem x) (hx : ∀ t ∈ l, smTxn t) (hl : l.length ≤ 1000) : smS (allS s l).1 := by
  unfold allS
  refine done_sm _ h done_formed (fun t ht => ?_) ?_
  · exact hx t (List.mem_filter.1 (takeT_mem ht)).1
  · have := done_len s l
    unfold allS at this
    simp only at this ⊢
    omega
theorem same15_self (s : Store) (h : smS s) : ACalls Tryz.prog Nm.ref15_Same [storeA s, storeA s] [] (.bool true) [] := by
  have := same15_walk s s h.1 (by have := h.2.1; omega)
  rwa [decide_eq_true rfl] at this
end Go.Bv
namespace Go.Bv
set_option linter.unusedSimpArgs false
set_option linter.unusedVariables false
set_option maxHeartbeats 4000000
set_option maxRecDepth 20000
open Go Go.Proofs
theorem storeUnder_walk (s : Store) (l : List Txn) (z : List (List UInt8)) (hs : okStore s) (hl : l.length ≤ reachBytes) (hx : ∀ x ∈ l, okTxn x) (hz : z.length ≤ reachBytes) (hzx : ∀ e ∈ z, e.length ≤ reachBytes) : ACalls Tryz.prog Nm.law15_StoreUnder [storeA s, txnsA l, strsA z] [] (.bool true) [] := by
  refine ACalls_of tab (dr_snd tab mixed) Nm.law15_StoreUnder_h rfl (by kernel_rfl) (Nat.le_of_ble_eq_true rfl) rfl ?_
  have hs' := okS hs
  have hl' := reach_lt hl
  have hz' := reach_lt hz
  have s1 := short15_walk s hs'.1 hs'.2 hs.2.2
  have s2 := short13_walk l (by omega) hx
  have s3 := short8_walk z (by omega) hzx
  cases h1 : shortS s with
  | false =>
    rw [h1] at s1
    refine NCall.call (awake15) rfl rfl ?_
    refine NCall.call (s1) rfl rfl ?_
    exact NRet.mk [] rfl ⟨.refl _, rfl⟩
  | true =>
  rw [h1] at s1
  obtain ⟨b1, b2, b3⟩ := shortS_sm h1
  cases h2 : shortT l with
  | false =>
    rw [h2] at s2
    refine NCall.call (awake15) rfl rfl ?_
    refine NCall.call (s1) rfl rfl ?_
    refine NCall.call (s2) rfl rfl ?_
    exact NRet.mk [] rfl ⟨.refl _, rfl⟩
  | true =>
  rw [h2] at s2
  obtain ⟨c1, c2⟩ := shortT_sm h2 hx
  have c3 := shortT_effs h2
  cases h3 : (decide (z.length ≤ 60) && z.all fun e => decide (e.length ≤ 200)) with
  | false =>
    rw [h3] at s3
    refine NCall.call (awake15) rfl rfl ?_
    refine NCall.call (s1) rfl rfl ?_
    refine NCall.call (s2) rfl rfl ?_
    refine NCall.call (s3) rfl rfl ?_
    exact NRet.mk [] rfl ⟨.refl _, rfl⟩
  | true =>
  rw [h3] at s3
  rw [Bool.and_eq_true] at h3
  have hz60 := of_decide_eq_true h3.1
  have s4 := twice14_walk l (by omega)
  cases h4 : twice l with
  | true =>
    rw [h4] at s4
    refine NCall.call (awake15) rfl rfl ?_
    refine NCall.call (s1) rfl rfl ?_
    refine NCall.call (s2) rfl rfl ?_
    refine NCall.call (s3) rfl rfl ?_
    refine NCall.call (s4) rfl rfl ?_
    exact NRet.mk [] rfl ⟨.refl _, rfl⟩
  | false =>
  rw [h4] at s4
  have s5 := sound_walk s ⟨by omega, by omega, b3⟩
  cases h5 : soundS s with
  | false =>
    rw [h5] at s5
    refine NCall.call (awake15) rfl rfl ?_
    refine NCall.call (s1) rfl rfl ?_
    refine NCall.call (s2) rfl rfl ?_
    refine NCall.call (s3) rfl rfl ?_
    refine NCall.call (s4) rfl rfl ?_
    refine NCall.call (s5) rfl rfl ?_
    exact NRet.mk [] rfl ⟨.refl _, rfl⟩
  | true =>
  rw [h5] at s5
  have s6 := own15_walk s.items l b2 c1 c2 c3
  cases h6 : ownB s.items l with
  | false =>
    rw [h6] at s6
    refine NCall.call (awake15) rfl rfl ?_
    refine NCall.call (s1) rfl rfl ?_
    refine NCall.call (s2) rfl rfl ?_
    refine NCall.call (s3) rfl rfl ?_
    refine NCall.call (s4) rfl rfl ?_
    refine NCall.call (s5) rfl rfl ?_
    refine NCall.call (s6) rfl rfl ?_
    exact NRet.mk [] rfl ⟨.refl _, rfl⟩
  | true =>
  rw [h6] at s6
  refine NCall.call (awake15) rfl rfl ?_
  refine NCall.call (s1) rfl rfl ?_
  refine NCall.call (s2) rfl rfl ?_
  refine NCall.call (s3) rfl rfl ?_
  refine NCall.call (s4) rfl rfl ?_
  refine NCall.call (s5) rfl rfl ?_
  refine NCall.call (s6) rfl rfl ?_
  refine NLoop.mk [(7, .agg 4)] [1, 2, 3, 7, 8] (fun m vs H => ∃ i, i ≤ l.length ∧ m = l.length - i ∧ H = [storeB s, .row .vrow (.agg 4) ((partT (l.take i) z).map txnA)] ∧ vs = [txnsA l, strsA z, .ptr 0 0 0, .own 1 0 ((partT (l.take i) z).map txnA).length, i64 i]) rfl ?_ ?_
  · exact Canon.mk [0, 1] rfl ⟨l.length, 0, Nat.zero_le _, rfl, by simp only [List.take_zero] <;> rfl, by simp only [List.take_zero] <;> rfl⟩
  rintro m vs H ⟨i, hi, rfl, rfl, rfl⟩
  by_cases hil : i < l.length
  · have hft := filter_take okT l hil
    have hfl : (partT (l.take i) z).length ≤ i := by
      unfold partT
      rw [List.length_map]
      exact Nat.le_trans (List.length_filter_le _ _) (by rw [List.length_take]; omega)
    have k1 := formed13_walk l[i] (c2 _ (List.getElem_mem hil))
    have k2 := only13_walk l[i] z (c2 _ (List.getElem_mem hil)) (by omega)
    have hsn : partT (l.take (i + 1)) z = if formed l[i] then partT (l.take i) z ++ [onlyT l[i] z] else partT (l.take i) z := by
      unfold partT
      rw [hft]
      show _ = if okT l[i] then _ else _
      split
      · rw [List.map_append]; rfl
      · rfl
    generalize partT (l.take i) z = F at *
    cases hf : formed l[i] with
    | true =>
      rw [hf] at k1 hsn
      rw [if_pos rfl] at hsn
      refine ND.yes (by (simp only [List.length_map, List.length_append, List.length_replicate, List.length_cons, List.length_nil, List.length_take, List.length_drop]; omega)) ?_
      refine NP.mk (by omega) ?_
      refine NG.mapN (by omega) ?_
      refine NCall.call (k1) rfl rfl ?_
      refine NP.mk (by omega) ?_
      refine NG.mapN (by omega) ?_
      refine NCall.call (k2) rfl rfl ?_
      refine NFz.own ?_
      refine NApp.endA rfl (by simp; omega) ?_
      refine NW.i64 (by omega) (by omega) ?_
      exact Canon.mk [0, 2] rfl ⟨l.length - (i + 1), by omega, i + 1, by omega, rfl, by rw [hsn, List.map_append]; rfl, by rw [hsn, List.map_append]; rfl⟩
    | false =>
      rw [hf] at k1 hsn
      rw [if_neg (by simp)] at hsn
      refine ND.yes (by (simp only [List.length_map, List.length_append, List.length_replicate, List.length_cons, List.length_nil, List.length_take, List.length_drop]; omega)) ?_
      refine NP.mk (by omega) ?_
      refine NG.mapN (by omega) ?_
      refine NCall.call (k1) rfl rfl ?_
      refine NW.i64 (by omega) (by omega) ?_
      exact Canon.mk [0, 1] rfl ⟨l.length - (i + 1), by omega, i + 1, by omega, rfl, by rw [hsn] <;> rfl, by rw [hsn] <;> rfl⟩
  have : i = l.length := by omega
  subst this
  rw [List.take_length]
  have hu := store_under (z := z) h5 h6
  have hpx : ∀ t ∈ partT l z, smTxn t := fun t ht => by
    obtain ⟨t0, h0, rfl⟩ := List.mem_map.1 ht
    obtain ⟨g1, g2, g3, g4⟩ := c2 t0 (List.mem_filter.1 h0).1
    exact ⟨g1, g2, Nat.le_trans (List.length_filter_le _ _) g3, fun e he => g4 e (List.mem_filter.1 he).1⟩
  have hpl : (partT l z).length ≤ 24 := by
    unfold partT
    rw [List.length_map]
    exact Nat.le_trans (List.length_filter_le _ _) c1
  have hul : (underS s fun k => z.any (begins k)).items.length ≤ 60 := Nat.le_trans (List.length_filter_le _ _) b2
  have hux : ∀ x ∈ (underS s fun k => z.any (begins k)).items, smItem x := fun x hx => b3 x (List.mem_filter.1 hx).1
  have hsU : smS (underS s fun k => z.any (begins k)) := ⟨Nat.le_trans b1 (by decide), by omega, hux⟩
  have m1 := allS_sm (s := s) (l := l) ⟨by omega, by omega, b3⟩ c2 (by omega)
  have m2 := allS_sm (s := underS s fun k => z.any (begins k)) (l := partT l z) ⟨hsU.1, by omega, hux⟩ hpx (by omega)
  have k3 := storeAll_walk s l ⟨by omega, by omega, b3⟩ (by omega) c2 (by omega)
  have k4 := storeUnderS_walk s z ⟨by omega, by omega, b3⟩ (by omega)
  have k5 := storeAll_walk (underS s fun k => z.any (begins k)) (partT l z) hsU (by omega) hpx (by omega)
  have k6 := storeUnderS_walk (allS s l).1 z m1 (by omega)
  rw [hu] at k6
  have k7 := same15_self _ m2
  generalize (allS (underS s fun k => z.any (begins k)) (partT l z)).1 = b at *
  generalize (allS (underS s fun k => z.any (begins k)) (partT l z)).2 = y at *
  generalize (underS s fun k => z.any (begins k)) = U at *
  generalize (allS s l).1 = a at *
  generalize (allS s l).2 = x at *
  generalize partT l z = P at *
  refine ND.no (by (simp only [List.length_map, List.length_append, List.length_replicate, List.length_cons, List.length_nil, List.length_take, List.length_drop]; omega)) ?_
  refine NCall.call (k3) rfl rfl ?_
  refine NCall.call (k4) rfl rfl ?_
  refine NCall.eq (by simp only [List.length_map] <;> exact rfl) ?_
  refine NCall.frzAllN [1] (k5) (.cons (.agg (.cons (.same _) (.cons (.same _) .nil))) (.cons (.own (by simp) rfl (by simp) (by simp) (by rw [List.drop_zero, List.take_of_length_le (by simp)])) .nil)) rfl rfl rfl ?_
  refine NP.mk (by kernel_rfl) ?_
  apply NDr.rd [2]
  · intro fH TH
    exact ⟨rfl, rfl⟩
  apply NDr.pure
  · exact ⟨rfl, rfl⟩
  apply NDr.pure
  · refine NCall.call (k6) rfl rfl ?_
    exact ⟨rfl, rfl⟩
  apply NDr.rd [3]
  · intro fH TH
    exact ⟨rfl, rfl⟩
  apply NDr.pure
  · refine NCall.call (k7) rfl rfl ?_
    exact ⟨rfl, rfl⟩
  apply NDr.pure
  · exact ⟨rfl, rfl⟩
  refine NP.mk (by kernel_rfl) ?_
  exact NRet.mk [] rfl ⟨.refl _, rfl⟩
end Go.Bv
namespace Go.Bv
open Go Go.Proofs
theorem ty_Vec {n : Nat} {xs : List AV} (h : TyC Tryz.prog n 24 xs) : ∃ a : List (Int), xs = [.list (.leaf) (a.map i64)] ∧ (a.length ≤ reachBytes ∧ ∀ y ∈ a, okInt y) := by
  obtain ⟨l, rfl, hl, hx⟩ := ty_slice h Tryz.underlying24
  have hs : shOf Tryz.prog 3 = .leaf := by exact shOf_int Tryz.underlying3
  have hb : 1 ≤ Tryz.prog.bytesOf 3 := Nat.le_of_ble_eq_true (by kernel_rfl)
  rw [hs] at hx ⊢
  have : ∀ x ∈ l, ∃ a : Int, x = i64 a ∧ okInt a := by
    intro x hxl
    obtain ⟨ys, hy, rfl⟩ := hx x hxl
    obtain ⟨a, e1, g1⟩ := ty_i64 hy Tryz.underlying3
    exact ⟨a, by rw [e1]; rfl, g1⟩
  obtain ⟨a, rfl, ha⟩ := list_of' this
  exact ⟨a, rfl, Nat.le_trans (by simpa using Nat.le_mul_of_pos_right (a.map i64).length hb) hl, ha⟩
theorem ty_Dot {n : Nat} {xs : List AV} (h : TyC Tryz.prog n 64 xs) : ∃ a : Dot, xs = dotC a ∧ okDot a := by
  obtain ⟨hl, hf⟩ := ty_struct h Tryz.underlying64
  have c3 : Tryz.prog.cellsOf 3 = 1 := by kernel_rfl
  have c64 : Tryz.prog.cellsOf 64 = 3 := by kernel_rfl
  rw [c64] at hl
  have h0 := hf _ (List.mem_cons_self ..)
  dsimp only at h0
  rw [c3] at h0
  obtain ⟨a0, e0, g0⟩ := ty_i64 h0 Tryz.underlying3
  have e0 := drop_more e0 rfl
  have h1 := hf _ (List.mem_cons_of_mem _ (List.mem_cons_self ..))
  dsimp only at h1
  rw [c3] at h1
  obtain ⟨a1, e1, g1⟩ := ty_i64 h1 Tryz.underlying3
  have e1 := drop_more e1 rfl
  have h2 := hf _ (List.mem_cons_of_mem _ (List.mem_cons_of_mem _ (List.mem_cons_self ..)))
  dsimp only at h2
  rw [c3] at h2
  obtain ⟨a2, e2, g2⟩ := ty_i64 h2 Tryz.underlying3
  have e2 := drop_more e2 rfl
  rw [drop_all' hl] at e2
  rw [e2] at e1
  rw [e1] at e0
  exact ⟨⟨a0, a1, a2⟩, by rw [List.drop_zero] at e0; rw [e0]; rfl, g0, g1, g2⟩
theorem ty_LDot {n : Nat} {xs : List AV} (h : TyC Tryz.prog n 60 xs) : ∃ a : List (Dot), xs = [.list (.agg 3) (a.map dotA)] ∧ (a.length ≤ reachBytes ∧ ∀ y ∈ a, okDot y) := by
  obtain ⟨l, rfl, hl, hx⟩ := ty_slice h Tryz.underlying60
  have hs : shOf Tryz.prog 64 = .agg 3 := by rw [shOf_struct Tryz.underlying64, show Tryz.prog.cellsOf 64 = 3 by kernel_rfl]
  have hb : 1 ≤ Tryz.prog.bytesOf 64 := Nat.le_of_ble_eq_true (by kernel_rfl)
  rw [hs] at hx ⊢
  have : ∀ x ∈ l, ∃ a : Dot, x = dotA a ∧ okDot a := by
    intro x hxl
    obtain ⟨ys, hy, rfl⟩ := hx x hxl
    obtain ⟨a, e1, g1⟩ := ty_Dot hy
    exact ⟨a, by rw [e1]; rfl, g1⟩
  obtain ⟨a, rfl, ha⟩ := list_of' this
  exact ⟨a, rfl, Nat.le_trans (by simpa using Nat.le_mul_of_pos_right (a.map dotA).length hb) hl, ha⟩
theorem ty_Eff {n : Nat} {xs : List AV} (h : TyC Tryz.prog n 62 xs) : ∃ a : Eff, xs = effC a ∧ okEff a := by
  obtain ⟨hl, hf⟩ := ty_struct h Tryz.underlying62
  have c3 : Tryz.prog.cellsOf 3 = 1 := by kernel_rfl
  have c9 : Tryz.prog.cellsOf 9 = 1 := by kernel_rfl
  have c2 : Tryz.prog.cellsOf 2 = 1 := by kernel_rfl
  have c60 : Tryz.prog.cellsOf 60 = 1 := by kernel_rfl
  have c62 : Tryz.prog.cellsOf 62 = 7 := by kernel_rfl
  rw [c62] at hl
  have h0 := hf _ (List.mem_cons_self ..)
  dsimp only at h0
  rw [c3] at h0
  obtain ⟨a0, e0, g0⟩ := ty_i64 h0 Tryz.underlying3
  have e0 := drop_more e0 rfl
  have h1 := hf _ (List.mem_cons_of_mem _ (List.mem_cons_self ..))
  dsimp only at h1
  rw [c9] at h1
  obtain ⟨a1, e1, g1⟩ := ty_str h1 Tryz.underlying9
  have e1 := drop_more e1 rfl
  have h2 := hf _ (List.mem_cons_of_mem _ (List.mem_cons_of_mem _ (List.mem_cons_self ..)))
  dsimp only at h2
  rw [c9] at h2
  obtain ⟨a2, e2, g2⟩ := ty_str h2 Tryz.underlying9
  have e2 := drop_more e2 rfl
  have h3 := hf _ (List.mem_cons_of_mem _ (List.mem_cons_of_mem _ (List.mem_cons_of_mem _ (List.mem_cons_self ..))))
  dsimp only at h3
  rw [c3] at h3
  obtain ⟨a3, e3, g3⟩ := ty_i64 h3 Tryz.underlying3
  have e3 := drop_more e3 rfl
  have h4 := hf _ (List.mem_cons_of_mem _ (List.mem_cons_of_mem _ (List.mem_cons_of_mem _ (List.mem_cons_of_mem _ (List.mem_cons_self ..)))))
  dsimp only at h4
  rw [c9] at h4
  obtain ⟨a4, e4, g4⟩ := ty_str h4 Tryz.underlying9
  have e4 := drop_more e4 rfl
  have h5 := hf _ (List.mem_cons_of_mem _ (List.mem_cons_of_mem _ (List.mem_cons_of_mem _ (List.mem_cons_of_mem _ (List.mem_cons_of_mem _ (List.mem_cons_self ..))))))
  dsimp only at h5
  rw [c2] at h5
  obtain ⟨a5, e5, g5⟩ := ty_i64 h5 Tryz.underlying2
  have e5 := drop_more e5 rfl
  have h6 := hf _ (List.mem_cons_of_mem _ (List.mem_cons_of_mem _ (List.mem_cons_of_mem _ (List.mem_cons_of_mem _ (List.mem_cons_of_mem _ (List.mem_cons_of_mem _ (List.mem_cons_self ..)))))))
  dsimp only at h6
  rw [c60] at h6
  obtain ⟨a6, e6, g6⟩ := ty_LDot h6
  have e6 := drop_more e6 rfl
  rw [drop_all' hl] at e6
  rw [e6] at e5
  rw [e5] at e4
  rw [e4] at e3
  rw [e3] at e2
  rw [e2] at e1
  rw [e1] at e0
  exact ⟨⟨a0, a1, a2, a3, a4, a5, a6⟩, by rw [List.drop_zero] at e0; rw [e0]; rfl, g0, g1, g2, g3, g4, g5, g6⟩
theorem ty_LEff {n : Nat} {xs : List AV} (h : TyC Tryz.prog n 38 xs) : ∃ a : List (Eff), xs = [.list (.agg 7) (a.map effA)] ∧ (a.length ≤ reachBytes ∧ ∀ y ∈ a, okEff y) := by
  obtain ⟨l, rfl, hl, hx⟩ := ty_slice h Tryz.underlying38
  have hs : shOf Tryz.prog 62 = .agg 7 := by rw [shOf_struct Tryz.underlying62, show Tryz.prog.cellsOf 62 = 7 by kernel_rfl]
  have hb : 1 ≤ Tryz.prog.bytesOf 62 := Nat.le_of_ble_eq_true (by kernel_rfl)
  rw [hs] at hx ⊢
  have : ∀ x ∈ l, ∃ a : Eff, x = effA a ∧ okEff a := by
    intro x hxl
    obtain ⟨ys, hy, rfl⟩ := hx x hxl
    obtain ⟨a, e1, g1⟩ := ty_Eff hy
    exact ⟨a, by rw [e1]; rfl, g1⟩
  obtain ⟨a, rfl, ha⟩ := list_of' this
  exact ⟨a, rfl, Nat.le_trans (by simpa using Nat.le_mul_of_pos_right (a.map effA).length hb) hl, ha⟩
theorem ty_Txn {n : Nat} {xs : List AV} (h : TyC Tryz.prog n 40 xs) : ∃ a : Txn, xs = txnC a ∧ okTxn a := by
  obtain ⟨hl, hf⟩ := ty_struct h Tryz.underlying40
  have c3 : Tryz.prog.cellsOf 3 = 1 := by kernel_rfl
  have c24 : Tryz.prog.cellsOf 24 = 1 := by kernel_rfl
  have c38 : Tryz.prog.cellsOf 38 = 1 := by kernel_rfl
  have c40 : Tryz.prog.cellsOf 40 = 4 := by kernel_rfl
  rw [c40] at hl
  have h0 := hf _ (List.mem_cons_self ..)
  dsimp only at h0
  rw [c3] at h0
  obtain ⟨a0, e0, g0⟩ := ty_i64 h0 Tryz.underlying3
  have e0 := drop_more e0 rfl
  have h1 := hf _ (List.mem_cons_of_mem _ (List.mem_cons_self ..))
  dsimp only at h1
  rw [c3] at h1
  obtain ⟨a1, e1, g1⟩ := ty_i64 h1 Tryz.underlying3
  have e1 := drop_more e1 rfl
  have h2 := hf _ (List.mem_cons_of_mem _ (List.mem_cons_of_mem _ (List.mem_cons_self ..)))
  dsimp only at h2
  rw [c24] at h2
  obtain ⟨a2, e2, g2⟩ := ty_Vec h2
  have e2 := drop_more e2 rfl
  have h3 := hf _ (List.mem_cons_of_mem _ (List.mem_cons_of_mem _ (List.mem_cons_of_mem _ (List.mem_cons_self ..))))
  dsimp only at h3
  rw [c38] at h3
  obtain ⟨a3, e3, g3⟩ := ty_LEff h3
  have e3 := drop_more e3 rfl
  rw [drop_all' hl] at e3
  rw [e3] at e2
  rw [e2] at e1
  rw [e1] at e0
  exact ⟨⟨a0, a1, a2, a3⟩, by rw [List.drop_zero] at e0; rw [e0]; rfl, g0, g1, g2, g3⟩
theorem ty_LTxn {n : Nat} {xs : List AV} (h : TyC Tryz.prog n 22 xs) : ∃ a : List (Txn), xs = [.list (.agg 4) (a.map txnA)] ∧ (a.length ≤ reachBytes ∧ ∀ y ∈ a, okTxn y) := by
  obtain ⟨l, rfl, hl, hx⟩ := ty_slice h Tryz.underlying22
  have hs : shOf Tryz.prog 40 = .agg 4 := by rw [shOf_struct Tryz.underlying40, show Tryz.prog.cellsOf 40 = 4 by kernel_rfl]
  have hb : 1 ≤ Tryz.prog.bytesOf 40 := Nat.le_of_ble_eq_true (by kernel_rfl)
  rw [hs] at hx ⊢
  have : ∀ x ∈ l, ∃ a : Txn, x = txnA a ∧ okTxn a := by
    intro x hxl
    obtain ⟨ys, hy, rfl⟩ := hx x hxl
    obtain ⟨a, e1, g1⟩ := ty_Txn hy
    exact ⟨a, by rw [e1]; rfl, g1⟩
  obtain ⟨a, rfl, ha⟩ := list_of' this
  exact ⟨a, rfl, Nat.le_trans (by simpa using Nat.le_mul_of_pos_right (a.map txnA).length hb) hl, ha⟩
theorem ty_Item {n : Nat} {xs : List AV} (h : TyC Tryz.prog n 66 xs) : ∃ a : Item, xs = itemC a ∧ okItem a := by
  obtain ⟨hl, hf⟩ := ty_struct h Tryz.underlying66
  have c9 : Tryz.prog.cellsOf 9 = 1 := by kernel_rfl
  have c3 : Tryz.prog.cellsOf 3 = 1 := by kernel_rfl
  have c2 : Tryz.prog.cellsOf 2 = 1 := by kernel_rfl
  have c64 : Tryz.prog.cellsOf 64 = 3 := by kernel_rfl
  have c66 : Tryz.prog.cellsOf 66 = 8 := by kernel_rfl
  rw [c66] at hl
  have h0 := hf _ (List.mem_cons_self ..)
  dsimp only at h0
  rw [c9] at h0
  obtain ⟨a0, e0, g0⟩ := ty_str h0 Tryz.underlying9
  have e0 := drop_more e0 rfl
  have h1 := hf _ (List.mem_cons_of_mem _ (List.mem_cons_self ..))
  dsimp only at h1
  rw [c9] at h1
  obtain ⟨a1, e1, g1⟩ := ty_str h1 Tryz.underlying9
  have e1 := drop_more e1 rfl
  have h2 := hf _ (List.mem_cons_of_mem _ (List.mem_cons_of_mem _ (List.mem_cons_self ..)))
  dsimp only at h2
  rw [c3] at h2
  obtain ⟨a2, e2, g2⟩ := ty_i64 h2 Tryz.underlying3
  have e2 := drop_more e2 rfl
  have h3 := hf _ (List.mem_cons_of_mem _ (List.mem_cons_of_mem _ (List.mem_cons_of_mem _ (List.mem_cons_self ..))))
  dsimp only at h3
  rw [c9] at h3
  obtain ⟨a3, e3, g3⟩ := ty_str h3 Tryz.underlying9
  have e3 := drop_more e3 rfl
  have h4 := hf _ (List.mem_cons_of_mem _ (List.mem_cons_of_mem _ (List.mem_cons_of_mem _ (List.mem_cons_of_mem _ (List.mem_cons_self ..)))))
  dsimp only at h4
  rw [c2] at h4
  obtain ⟨a4, e4, g4⟩ := ty_i64 h4 Tryz.underlying2
  have e4 := drop_more e4 rfl
  have h5 := hf _ (List.mem_cons_of_mem _ (List.mem_cons_of_mem _ (List.mem_cons_of_mem _ (List.mem_cons_of_mem _ (List.mem_cons_of_mem _ (List.mem_cons_self ..))))))
  dsimp only at h5
  rw [c64] at h5
  obtain ⟨a5, e5, g5⟩ := ty_Dot h5
  have e5 := drop_more e5 rfl
  rw [drop_all' hl] at e5
  rw [e5] at e4
  rw [e4] at e3
  rw [e3] at e2
  rw [e2] at e1
  rw [e1] at e0
  exact ⟨⟨a0, a1, a2, a3, a4, a5⟩, by rw [List.drop_zero] at e0; rw [e0]; rfl, g0, g1, g2, g3, g4, g5⟩
theorem ty_LItem {n : Nat} {xs : List AV} (h : TyC Tryz.prog n 29 xs) : ∃ a : List (Item), xs = [.list (.agg 8) (a.map itemA)] ∧ (a.length ≤ reachBytes ∧ ∀ y ∈ a, okItem y) := by
  obtain ⟨l, rfl, hl, hx⟩ := ty_slice h Tryz.underlying29
  have hs : shOf Tryz.prog 66 = .agg 8 := by rw [shOf_struct Tryz.underlying66, show Tryz.prog.cellsOf 66 = 8 by kernel_rfl]
  have hb : 1 ≤ Tryz.prog.bytesOf 66 := Nat.le_of_ble_eq_true (by kernel_rfl)
  rw [hs] at hx ⊢
  have : ∀ x ∈ l, ∃ a : Item, x = itemA a ∧ okItem a := by
    intro x hxl
    obtain ⟨ys, hy, rfl⟩ := hx x hxl
    obtain ⟨a, e1, g1⟩ := ty_Item hy
    exact ⟨a, by rw [e1]; rfl, g1⟩
  obtain ⟨a, rfl, ha⟩ := list_of' this
  exact ⟨a, rfl, Nat.le_trans (by simpa using Nat.le_mul_of_pos_right (a.map itemA).length hb) hl, ha⟩
theorem ty_Store {n : Nat} {xs : List AV} (h : TyC Tryz.prog n 37 xs) : ∃ a : Store, xs = storeC a ∧ okStore a := by
  obtain ⟨hl, hf⟩ := ty_struct h Tryz.underlying37
  have c24 : Tryz.prog.cellsOf 24 = 1 := by kernel_rfl
  have c29 : Tryz.prog.cellsOf 29 = 1 := by kernel_rfl
  have c37 : Tryz.prog.cellsOf 37 = 2 := by kernel_rfl
  rw [c37] at hl
  have h0 := hf _ (List.mem_cons_self ..)
  dsimp only at h0
  rw [c24] at h0
  obtain ⟨a0, e0, g0⟩ := ty_Vec h0
  have e0 := drop_more e0 rfl
  have h1 := hf _ (List.mem_cons_of_mem _ (List.mem_cons_self ..))
  dsimp only at h1
  rw [c29] at h1
  obtain ⟨a1, e1, g1⟩ := ty_LItem h1
  have e1 := drop_more e1 rfl
  rw [drop_all' hl] at e1
  rw [e1] at e0
  exact ⟨⟨a0, a1⟩, by rw [List.drop_zero] at e0; rw [e0]; rfl, g0, g1⟩
theorem ty_Lstring {n : Nat} {xs : List AV} (h : TyC Tryz.prog n 41 xs) : ∃ a : List (List UInt8), xs = [.list (.leaf) (a.map AV.str)] ∧ (a.length ≤ reachBytes ∧ ∀ y ∈ a, y.length ≤ reachBytes) := by
  obtain ⟨l, rfl, hl, hx⟩ := ty_slice h Tryz.underlying41
  have hs : shOf Tryz.prog 9 = .leaf := by exact shOf_str Tryz.underlying9
  have hb : 1 ≤ Tryz.prog.bytesOf 9 := Nat.le_of_ble_eq_true (by kernel_rfl)
  rw [hs] at hx ⊢
  have : ∀ x ∈ l, ∃ a : List UInt8, x = AV.str a ∧ a.length ≤ reachBytes := by
    intro x hxl
    obtain ⟨ys, hy, rfl⟩ := hx x hxl
    obtain ⟨a, e1, g1⟩ := ty_str hy Tryz.underlying9
    exact ⟨a, by rw [e1]; rfl, g1⟩
  obtain ⟨a, rfl, ha⟩ := list_of' this
  exact ⟨a, rfl, Nat.le_trans (by simpa using Nat.le_mul_of_pos_right (a.map AV.str).length hb) hl, ha⟩
end Go.Bv
