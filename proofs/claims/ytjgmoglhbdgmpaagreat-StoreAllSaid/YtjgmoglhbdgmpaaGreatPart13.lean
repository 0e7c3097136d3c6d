/- Part of the lift: an abstract walk of the program's code, proved sound, and what it shows of this program. -/
import Derived.Test.YtjgmoglhbdgmpaaGreatPart12
import Derived.Test.YtjgmoglhbdgmpaaGreatPart10
import Derived.Test.YtjgmoglhbdgmpaaGreatPart9
import Derived.Test.YtjgmoglhbdgmpaaGreatPart8
import Derived.Test.YtjgmoglhbdgmpaaGreatPart4
namespace Go.Bv
set_option linter.unusedSimpArgs false
set_option linter.unusedVariables false
set_option maxHeartbeats 4000000
set_option maxRecDepth 20000
open Go Go.Proofs
def storeB (s : Store) : Blk := .row .box (.agg 2) [.agg [ints s.heard, itemsA s.items]]
theorem equalI_walk (a b : List Item) (ha : a.length ≤ 2 ^ 38) : ACalls Tryz.prog Nm.slices_Equal_api_Item_api_Item [itemsA a, itemsA b] [] (.bool (decide (a = b))) [] := by
 refine ACalls_of tab (dr_snd tab mixed) Nm.slices_Equal_api_Item_api_Item_h rfl (by kernel_rfl) (Nat.le_of_ble_eq_true rfl) rfl ?_
 by_cases hl : a.length = b.length
 ·refine ND.yes (by (simp only [zLm, zLa, zLr, zLc, zLn, zLt, zLd]; omega)) ?_
  refine NLoop.mk [] [0, 1, 11, 12, 13] (fun m vs H => ∃ i, i ≤ a.length ∧ m = a.length - i ∧ a.take i = b.take i ∧ H = [] ∧ vs = [itemsA a, itemsA b, itemsA a, i64 a.length, i64 i]) rfl ?_ ?_
  ·exact Canon.mk [] rfl ⟨a.length, 0, Nat.zero_le _, rfl, rfl, rfl, by simp [itemsA, i64]⟩
  ·rintro m vs H ⟨i, hi, rfl, ht, rfl, rfl⟩
   by_cases hil : i < a.length
   ·have hib : i < b.length := by omega
    refine ND.yes (by omega) ?_
    refine NP.mk (by kernel_rfl) ?_
    refine NDr.w _ ?_
    refine NDr.w _ ?_
    apply NDr.pure
    ·refine NP.mk (by omega) ?_
     refine NG.mapN (by omega) ?_
     exact ⟨rfl, rfl⟩
    refine NDr.w _ ?_
    refine NDr.w _ ?_
    refine NDr.w _ ?_
    apply NDr.pure
    ·refine NP.mk (by omega) ?_
     refine NG.mapN (by omega) ?_
     exact ⟨rfl, rfl⟩
    refine NDr.w _ ?_
    apply NDr.pure
    ·exact NB.det'
    refine NP.mk (by kernel_rfl) ?_
    refine NB.mk (fun hk3 => ?_) (fun hk3 => ?_)
    ·refine NRet.boolE (b := false) ?_ (NRet.mk [] rfl ⟨.refl _, rfl⟩)
     grind
    refine NW.w ?_
    exact Canon.mk [] rfl ⟨a.length - (i + 1), by omega, i + 1, by omega, rfl, take_eq_next ht hil hib (by grind [Item.ext_iff, Dot.ext_iff]), rfl, rfl⟩
   ·have : i = a.length := by omega
    subst this
    rw [decide_eq_true (take_eq_end hl ht)]
    refine ND.no (by omega) ?_
    exact NRet.mk [] rfl ⟨.refl _, rfl⟩
 ·rw [decide_eq_false fun e => hl (by rw [e])]
  refine ND.no (by (simp only [zLm, zLa, zLr, zLc, zLn, zLt, zLd]; omega)) ?_
  exact NRet.mk [] rfl ⟨.refl _, rfl⟩
theorem soundF1_walk (n : Int) : ACalls Tryz.prog Nm.store_Sound_1 [i64 n] [] (.bool (decide (1073741824 < n))) [] := by
 refine ACalls_of tab (dr_snd tab mixed) Nm.store_Sound_1_h rfl (by kernel_rfl) (Nat.le_of_ble_eq_true rfl) rfl ?_
 refine NB.dec (fun hk1 => ?_) (fun hk1 => ?_)
 ·refine NRet.boolE (b := true) ?_ (NRet.mk [] rfl ⟨.refl _, rfl⟩)
  (simp only [decide_eq_true_eq, decide_eq_false_iff_not, eq_comm (a := true), eq_comm (a := false)]; omega)
 refine NRet.boolE (b := false) ?_ (NRet.mk [] rfl ⟨.refl _, rfl⟩)
 (simp only [decide_eq_true_eq, decide_eq_false_iff_not, eq_comm (a := true), eq_comm (a := false)]; omega)
theorem soundF2_walk (s : Store) (x : Item) (hv : s.heard.length ≤ 2 ^ 38) (hx : smItem x) : ACalls Tryz.prog Nm.store_Sound_2 [itemA x, .ptr 0 0 0] [storeB s] (.bool (!heldB s.heard x)) [storeB s] := by
 refine ACalls_of tab (dr_snd tab mixed) Nm.store_Sound_2_h rfl (by kernel_rfl) (Nat.le_of_ble_eq_true rfl) rfl ?_
 have h1 := itemFormed_walk x hx
 have h2 := vecHas_walk s.heard x.dot.node x.dot.seq x.dot.at' (by omega)
 unfold heldB hasB storeB
 cases hf : itemOk x with
 | false =>
  rw [hf] at h1
  refine NCall.call (h1) rfl rfl ?_
  exact NRet.mk [] rfl ⟨.refl _, rfl⟩
 | true =>
  rw [hf] at h1
  refine NCall.call (h1) rfl rfl ?_
  refine NCall.call (h2) rfl rfl ?_
  refine NB.mk (fun hk1 => ?_) (fun hk1 => ?_)
  ·refine NRet.boolE (b := false) ?_ (NRet.mk [] rfl ⟨.refl _, rfl⟩)
   (simp [*]; done)
  refine NRet.boolE (b := true) ?_ (NRet.mk [] rfl ⟨.refl _, rfl⟩)
  (simp [*]; done)
theorem indexIs_walk (g : Nat) (s : Store) (l : List Item) (p : Item → Bool) (hl : l.length ≤ 2 ^ 38) (hg : ∀ x ∈ l, ACalls Tryz.prog g [itemA x, .ptr 0 0 0] [storeB s] (.bool (p x)) [storeB s]) :
  ACalls Tryz.prog Nm.slices_IndexFunc_api_Item_api_Item [itemsA l, .fn g [.ptr 0 0 0]] [storeB s] (i64 (ixI p l)) [storeB s] := by
 refine ACalls_of tab (dr_snd tab mixed) Nm.slices_IndexFunc_api_Item_api_Item_h rfl (by kernel_rfl) (Nat.le_of_ble_eq_true rfl) rfl ?_
 refine NLoop.mk [] [0, 1, 6, 7, 8] (fun m vs H => ∃ i, i ≤ l.length ∧ m = l.length - i ∧ (∀ x ∈ l.take i, p x = false) ∧ H = [storeB s] ∧ vs = [itemsA l, .fn g [.ptr 0 0 0], itemsA l, i64 l.length, i64 i]) rfl ?_ ?_
 ·exact Canon.mk [] rfl ⟨l.length, 0, Nat.zero_le _, rfl, by simp, rfl, by simp [itemsA, i64]⟩
 ·rintro m vs H ⟨i, hi, rfl, ht, rfl, rfl⟩
  by_cases hil : i < l.length
  ·have hc := hg _ (List.getElem_mem hil)
   obtain ⟨f1, f2⟩ := find_step hil ht
   cases hp : p l[i] with
   | true =>
    rw [hp] at hc
    rw [f1 hp]
    refine ND.yes (by omega) ?_
    refine NP.mk (by omega) ?_
    refine NG.mapN (by omega) ?_
    refine NCall.atA (hc) ?_
    exact NRet.mk [] rfl ⟨.refl _, rfl⟩
   | false =>
    rw [hp] at hc
    refine ND.yes (by omega) ?_
    refine NP.mk (by omega) ?_
    refine NG.mapN (by omega) ?_
    refine NCall.atA (hc) ?_
    refine NW.w ?_
    exact Canon.mk [] rfl ⟨l.length - (i + 1), by omega, i + 1, by omega, rfl, f2 hp, rfl, rfl⟩
  ·have : i = l.length := by omega
   subst this
   rw [List.take_length] at ht
   rw [find_none ht]
   refine ND.no (by omega) ?_
   exact NRet.mk [] rfl ⟨.refl _, rfl⟩
theorem containsIs_walk (g : Nat) (s : Store) (l : List Item) (p : Item → Bool) (hl : l.length ≤ 2 ^ 38) (hg : ∀ x ∈ l, ACalls Tryz.prog g [itemA x, .ptr 0 0 0] [storeB s] (.bool (p x)) [storeB s]) :
  ACalls Tryz.prog Nm.slices_ContainsFunc_api_Item_api_Item [itemsA l, .fn g [.ptr 0 0 0]] [storeB s] (.bool (l.any p)) [storeB s] := by
 have hi := indexIs_walk g s l p hl hg
 refine ACalls_of tab (dr_snd tab mixed) Nm.slices_ContainsFunc_api_Item_api_Item_h rfl (by kernel_rfl) (Nat.le_of_ble_eq_true rfl) rfl ?_
 rw [ixI_any]
 by_cases h : 0 ≤ ixI p l
 ·rw [decide_eq_true h]
  refine NCall.atA (hi) ?_
  refine ND.yes (by omega) ?_
  exact NRet.mk [] rfl ⟨.refl _, rfl⟩
 ·rw [decide_eq_false h]
  refine NCall.atA (hi) ?_
  refine ND.no (by omega) ?_
  exact NRet.mk [] rfl ⟨.refl _, rfl⟩
def smS (s : Store) : Prop := s.heard.length ≤ 2 ^ 38 ∧ s.items.length ≤ 50000 ∧ ∀ x ∈ s.items, smItem x
theorem sound_walk (s : Store) (hs : smS s) : ACalls Tryz.prog Nm.store_Sound [storeA s] [] (.bool (soundS s)) [] := by
 refine ACalls_of tab (dr_snd tab mixed) Nm.store_Sound_h rfl (by kernel_rfl) (Nat.le_of_ble_eq_true rfl) rfl ?_
 obtain ⟨h1, h2, h3⟩ := hs
 have k1 := vecTrim_walk s.heard (by omega)
 have k2 := equalV_walk (trim s.heard) s.heard (by have := trim_len s.heard; omega)
 have k3 := containsV_walk Nm.store_Sound_1 s.heard (fun n => decide (1073741824 < n)) (by omega) (fun n _ => soundF1_walk n)
 have k4 := norm_list s.items (by omega)
 have k5 := equalI_walk (norm s.items) s.items (by have := norm_len s.items; omega)
 have k6 := containsIs_walk Nm.store_Sound_2 s s.items (fun x => !heldB s.heard x) (by omega) (fun x hx => soundF2_walk s x h1 (h3 x hx))
 have e6 : (s.items.any fun x => !heldB s.heard x) = !(s.items.all (heldB s.heard)) := by rw [List.not_all_eq_any_not]
 rw [e6] at k6
 unfold soundS vecOk
 rw [all_le]
 unfold storeB at k6
 refine NP.mk (by kernel_rfl) ?_
 apply NDr.rd [0]
 ·intro fH TH
  exact ⟨rfl, rfl⟩
 apply NDr.rd [0]
 ·intro fH TH
  exact ⟨rfl, rfl⟩
 refine NDr.w _ ?_
 apply NDr.pure
 ·exact NB.det
 refine NDr.w _ ?_
 refine NB.mk (fun hk2 => ?_) (fun hk2 => ?_)
 ·refine NB.yes (by assumption) ?_
  refine NB.yes (by assumption) ?_
  refine NB.yes (by assumption) ?_
  refine NB.yes (by assumption) ?_
  refine NB.yes (by assumption) ?_
  refine NB.yes (by assumption) ?_
  apply NDr.pure
  ·refine NB.yes (by assumption) ?_
   exact ⟨rfl, rfl⟩
  refine NDr.w _ ?_
  refine NDr.w _ ?_
  refine NP.mk (by kernel_rfl) ?_
  refine NRet.boolE (b := false) ?_ (NRet.mk [] rfl ⟨.refl _, rfl⟩)
  grind
 apply NDr.rd [0]
 ·intro fH TH
  exact ⟨rfl, rfl⟩
 refine NB.no (by assumption) ?_
 apply NDr.rd [0]
 ·intro fH TH
  exact ⟨rfl, rfl⟩
 refine NB.no (by assumption) ?_
 apply NDr.pure
 ·refine NCall.call (k1) rfl rfl ?_
  exact ⟨rfl, rfl⟩
 refine NB.no (by assumption) ?_
 apply NDr.rd [0]
 ·intro fH TH
  exact ⟨rfl, rfl⟩
 refine NB.no (by assumption) ?_
 apply NDr.rd [0]
 ·intro fH TH
  exact ⟨rfl, rfl⟩
 refine NB.no (by assumption) ?_
 apply NDr.pure
 ·refine NCall.call (k2) rfl rfl ?_
  exact ⟨rfl, rfl⟩
 refine NB.no (by assumption) ?_
 apply NDr.pure
 ·exact NB.det0'
 apply NDr.pure
 ·refine NB.no (by assumption) ?_
  exact ⟨rfl, rfl⟩
 refine NDr.w _ ?_
 refine NB.mk (fun hk17 => ?_) (fun hk17 => ?_)
 ·refine NB.yes (by assumption) ?_
  refine NB.yes (by assumption) ?_
  apply NDr.pure
  ·refine NB.yes (by assumption) ?_
   exact ⟨rfl, rfl⟩
  refine NP.mk (by kernel_rfl) ?_
  refine NRet.boolE (b := false) ?_ (NRet.mk [] rfl ⟨.refl _, rfl⟩)
  grind
 apply NDr.rd [0]
 ·intro fH TH
  exact ⟨rfl, rfl⟩
 refine NB.no (by assumption) ?_
 apply NDr.rd [0]
 ·intro fH TH
  exact ⟨rfl, rfl⟩
 refine NB.no (by assumption) ?_
 apply NDr.pure
 ·refine NCall.call (k3) rfl rfl ?_
  exact ⟨rfl, rfl⟩
 apply NDr.pure
 ·refine NB.no (by assumption) ?_
  exact ⟨rfl, rfl⟩
 refine NP.mk (by kernel_rfl) ?_
 refine NB.mk (fun hk24 => ?_) (fun hk24 => ?_)
 ·refine NRet.boolE (b := false) ?_ (NRet.mk [] rfl ⟨.refl _, rfl⟩)
  (simp [*]; done)
 refine NP.mk (by kernel_rfl) ?_
 apply NDr.rd [0]
 ·intro fH TH
  exact ⟨rfl, rfl⟩
 apply NDr.rd [0]
 ·intro fH TH
  exact ⟨rfl, rfl⟩
 apply NDr.pure
 ·refine NCall.call (k4) rfl rfl ?_
  exact ⟨rfl, rfl⟩
 apply NDr.rd [0]
 ·intro fH TH
  exact ⟨rfl, rfl⟩
 apply NDr.rd [0]
 ·intro fH TH
  exact ⟨rfl, rfl⟩
 apply NDr.pure
 ·refine NCall.call (k5) rfl rfl ?_
  exact ⟨rfl, rfl⟩
 apply NDr.pure
 ·exact NB.det0'
 refine NP.mk (by kernel_rfl) ?_
 refine NB.mk (fun hk25 => ?_) (fun hk25 => ?_)
 ·refine NRet.boolE (b := false) ?_ (NRet.mk [] rfl ⟨.refl _, rfl⟩)
  grind
 refine NCall.atA (k6) ?_
 refine NB.mk (fun hk26 => ?_) (fun hk26 => ?_)
 ·refine NRet.boolE (b := false) ?_ (NRet.mk [] rfl ⟨.refl _, rfl⟩)
  grind
 refine NRet.boolE (b := true) ?_ (NRet.mk [] rfl ⟨.refl _, rfl⟩)
 grind
theorem storeDo_walk (s : Store) (t : Txn) (hs : smS s) (ht : smTxn t) (hn : t.effs.length ≤ 100) : ACalls Tryz.prog Nm.store_Do [storeA s, txnA t] [] (if formed t = true then if hasB s.heard t.node t.seq = true then .tup [storeA ⟨[], []⟩, i64 8] else if ready s.heard t = true then .tup [storeA (doT s t), i64 0] else .tup [storeA ⟨[], []⟩, i64 9] else .tup [storeA ⟨[], []⟩, i64 2]) [] := by
 refine ACalls_of tab (dr_snd tab mixed) Nm.store_Do_h rfl (by kernel_rfl) (Nat.le_of_ble_eq_true rfl) rfl ?_
 obtain ⟨h1, h2, h3⟩ := hs
 have k1 := formed_walk t ht
 have k2 := dot_walk t
 have k3 := vecHas_walk s.heard t.node t.seq 0 (by omega)
 have k4 := ready_walk s.heard t h1 (by have := ht.2.1; omega) ht.1
 have k5 := next_walk s.heard t (by omega)
 have k6 := do_walk s.items t.node t.seq t.effs h2 (by omega) ht.2.2.2
 obtain ⟨r, hr⟩ : ∃ r, r = (if formed t = true then if hasB s.heard t.node t.seq = true then AV.tup [storeA ⟨[], []⟩, i64 8] else if ready s.heard t = true then .tup [storeA (doT s t), i64 0] else .tup [storeA ⟨[], []⟩, i64 9] else .tup [storeA ⟨[], []⟩, i64 2]) := ⟨_, rfl⟩
 rw [← hr]
 cases e1 : formed t with
 | false =>
  rw [e1] at k1 hr
  rw [if_neg (by simp)] at hr
  subst hr
  refine NCall.call (k1) rfl rfl ?_
  exact NRet.mk [] rfl ⟨by repeat (first | exact LeA.refl _ | exact LeA.nils _ | refine LeA.agg ?_ | refine LeA.tup ?_ | exact LeAs.nil | refine LeAs.cons ?_ ?_), rfl⟩
 | true =>
  rw [e1] at k1 hr
  rw [if_pos rfl] at hr
  cases e2 : hasB s.heard t.node t.seq with
  | true =>
   rw [e2, if_pos rfl] at hr
   unfold hasB at e2
   rw [e2] at k3
   subst hr
   refine NCall.call (k1) rfl rfl ?_
   refine NP.mk (by kernel_rfl) ?_
   apply NDr.rd [0]
   ·intro fH TH
    exact ⟨rfl, rfl⟩
   apply NDr.rd [0]
   ·intro fH TH
    exact ⟨rfl, rfl⟩
   apply NDr.rd [1]
   ·intro fH TH
    exact ⟨rfl, rfl⟩
   apply NDr.pure
   ·refine NCall.call (k2) rfl rfl ?_
    exact ⟨rfl, rfl⟩
   apply NDr.pure
   ·refine NCall.call (k3) rfl rfl ?_
    exact ⟨rfl, rfl⟩
   refine NDr.w _ ?_
   refine NP.mk (by kernel_rfl) ?_
   exact NRet.mk [] rfl ⟨by repeat (first | exact LeA.refl _ | exact LeA.nils _ | refine LeA.agg ?_ | refine LeA.tup ?_ | exact LeAs.nil | refine LeAs.cons ?_ ?_), rfl⟩
  | false =>
   rw [e2, if_neg (by simp)] at hr
   unfold hasB at e2
   rw [e2] at k3
   cases e3 : ready s.heard t with
   | false =>
    rw [e3] at k4 hr
    rw [if_neg (by simp)] at hr
    subst hr
    refine NCall.call (k1) rfl rfl ?_
    refine NP.mk (by kernel_rfl) ?_
    apply NDr.rd [0]
    ·intro fH TH
     exact ⟨rfl, rfl⟩
    apply NDr.rd [0]
    ·intro fH TH
     exact ⟨rfl, rfl⟩
    apply NDr.rd [1]
    ·intro fH TH
     exact ⟨rfl, rfl⟩
    apply NDr.pure
    ·refine NCall.call (k2) rfl rfl ?_
     exact ⟨rfl, rfl⟩
    apply NDr.pure
    ·refine NCall.call (k3) rfl rfl ?_
     exact ⟨rfl, rfl⟩
    refine NDr.w _ ?_
    refine NP.mk (by kernel_rfl) ?_
    refine NCall.call (k4) rfl rfl ?_
    exact NRet.mk [] rfl ⟨by repeat (first | exact LeA.refl _ | exact LeA.nils _ | refine LeA.agg ?_ | refine LeA.tup ?_ | exact LeAs.nil | refine LeAs.cons ?_ ?_), rfl⟩
   | true =>
    rw [e3] at k4 hr
    rw [if_pos rfl] at hr
    subst hr
    refine NCall.call (k1) rfl rfl ?_
    refine NP.mk (by kernel_rfl) ?_
    apply NDr.rd [0]
    ·intro fH TH
     exact ⟨rfl, rfl⟩
    apply NDr.rd [0]
    ·intro fH TH
     exact ⟨rfl, rfl⟩
    apply NDr.rd [1]
    ·intro fH TH
     exact ⟨rfl, rfl⟩
    apply NDr.pure
    ·refine NCall.call (k2) rfl rfl ?_
     exact ⟨rfl, rfl⟩
    apply NDr.pure
    ·refine NCall.call (k3) rfl rfl ?_
     exact ⟨rfl, rfl⟩
    refine NDr.w _ ?_
    refine NP.mk (by kernel_rfl) ?_
    refine NCall.call (k4) rfl rfl ?_
    refine NP.mk (by kernel_rfl) ?_
    apply NDr.rd [0]
    ·intro fH TH
     exact ⟨rfl, rfl⟩
    apply NDr.rd [0]
    ·intro fH TH
     exact ⟨rfl, rfl⟩
    apply NDr.rd [1]
    ·intro fH TH
     exact ⟨rfl, rfl⟩
    apply NDr.pure
    ·refine NCall.call (k5) rfl rfl ?_
     exact ⟨rfl, rfl⟩
    apply NDr.rd [0]
    ·intro fH TH
     exact ⟨rfl, rfl⟩
    apply NDr.rd [0]
    ·intro fH TH
     exact ⟨rfl, rfl⟩
    apply NDr.rd [1]
    ·intro fH TH
     exact ⟨rfl, rfl⟩
    apply NDr.rd [1]
    ·intro fH TH
     exact ⟨rfl, rfl⟩
    apply NDr.rd [1]
    ·intro fH TH
     exact ⟨rfl, rfl⟩
    apply NDr.rd [1]
    ·intro fH TH
     exact ⟨rfl, rfl⟩
    apply NDr.rd [1]
    ·intro fH TH
     exact ⟨rfl, rfl⟩
    apply NDr.rd [1]
    ·intro fH TH
     exact ⟨rfl, rfl⟩
    apply NDr.pure
    ·refine NCall.call (k6) rfl rfl ?_
     exact ⟨rfl, rfl⟩
    refine NDr.w _ ?_
    apply NDr.efw [2]
    ·exact ⟨rfl, rfl⟩
    ·repeat (first | exact True.intro | refine ⟨by first | exact rfl | exact True.intro, ?_⟩)
    refine NDr.w _ ?_
    refine NP.mk (by kernel_rfl) ?_
    exact NRet.mk [] rfl ⟨.refl _, rfl⟩
theorem cloneI_list (l : List Item) (hl : l.length ≤ 2 ^ 38) : ACalls Tryz.prog Nm.slices_Clone_api_Item_api_Item [itemsA l] [] (itemsA l) [] := (cloneI_walk l hl).drop (dropL (by simp))
theorem chain_at : ∀ {c : List Txn} {v : List Int} {i : Nat}, chain v c = true → ∀ h : i < c.length, ready (nexts v (c.take i)) c[i] = true
 | [], _, _, _, h => by simp at h
 | t :: c, v, 0, hc, _ => ((chain_cons v t c).1 hc).1
 | t :: c, v, i + 1, hc, h => by
  have := chain_at ((chain_cons v t c).1 hc).2 (i := i) (by simpa using h)
  simpa [nexts_cons] using this
theorem ready_old {v : List Int} {t : Txn} (h : ready v t = true) : hasB v t.node t.seq = false := by
 obtain ⟨_, h2, _⟩ := (ready_iff v t).1 h
 unfold hasB
 exact decide_eq_false (by omega)
theorem foldl_heard (l : List Txn) (s : Store) : (l.foldl doT s).heard = nexts s.heard l := by rw [foldl_doT]
theorem foldl_snoc' {α β : Type} (f : β → α → β) (b : β) {l : List α} {i : Nat} (h : i < l.length) : (l.take (i + 1)).foldl f b = f ((l.take i).foldl f b) l[i] := by
 rw [List.take_succ_eq_append_getElem h, List.foldl_append]; rfl
theorem do_mem {n s : Int} {es : List Eff} {X : List Item} {x : Item} (h : x ∈ doL n s X es) : x ∈ X ∨ ∃ e ∈ es, x = made n s e := by
 by_cases he : es = []
 ·subst he; exact .inl h
 ·rw [doL_raw he] at h
  rcases (mem_rawL es X x).1 (norm_mem h) with ⟨h, _⟩ | h
  ·exact .inl h
  ·obtain ⟨e, he, _, rfl⟩ := madeBy_ex h
   exact .inr ⟨e, he, rfl⟩
theorem done_sm : ∀ (l : List Txn) {s : Store}, (s.heard.length ≤ 2 ^ 38 ∧ s.items.length ≤ 40000 ∧ ∀ x ∈ s.items, smItem x) → (∀ t ∈ l, formed t = true) → (∀ t ∈ l, smTxn t) → l.length ≤ 1000 → smS (l.foldl doT s) := by
 have : ∀ (l : List Txn) {s : Store}, s.heard.length ≤ 2 ^ 38 → s.items.length + 8 * l.length ≤ 50000 → (∀ x ∈ s.items, smItem x) → (∀ t ∈ l, formed t = true) → (∀ t ∈ l, smTxn t) → smS (l.foldl doT s) := by
  intro l
  induction l with
  | nil => intro s h1 h2 h3 _ _; exact ⟨h1, by simpa using h2, h3⟩
  | cons t l ih =>
   intro s h1 h2 h3 hf hx
   rw [List.length_cons] at h2
   have ht := formed_len (hf t (List.mem_cons_self ..))
   have hd := doL_len (n := t.node) (s := t.seq) t.effs s.items
   rw [List.foldl_cons]
   refine ih (s := doT s t) ?_ ?_ ?_ (fun t' h' => hf t' (List.mem_cons_of_mem _ h')) (fun t' h' => hx t' (List.mem_cons_of_mem _ h'))
   ·have := next_len s.heard t
    show (next s.heard t).length ≤ _
    omega
   ·show (doL t.node t.seq s.items t.effs).length + _ ≤ _
    omega
   ·intro x hx'
    rcases do_mem (show x ∈ doL t.node t.seq s.items t.effs from hx') with h | ⟨e, he, rfl⟩
    ·exact h3 x h
    ·exact smMade ((hx t (List.mem_cons_self ..)).2.2.2 e he)
 exact fun l s h hf hx hl => this l h.1 (by omega) h.2.2 hf hx
theorem storeAll_walk (s : Store) (l : List Txn) (hs : smS s) (hl : l.length ≤ 1000) (hx : ∀ t ∈ l, smTxn t) (hi : s.items.length ≤ 40000) : ACalls Tryz.prog Nm.store_All [storeA s, txnsA l] [] (.tup [storeA (allS s l).1, txnsA (allS s l).2]) [] := by
 refine ACalls_of tab (dr_snd tab mixed) Nm.store_All_h rfl (by kernel_rfl) (Nat.le_of_ble_eq_true rfl) rfl ?_
 obtain ⟨h1, h2, h3⟩ := hs
 have k1 := cloneV_list s.heard (by omega)
 have k2 := cloneI_list s.items (by omega)
 refine NP.mk (by kernel_rfl) ?_
 apply NDr.rd [0]
 ·intro fH TH
  exact ⟨rfl, rfl⟩
 apply NDr.rd [0]
 ·intro fH TH
  exact ⟨rfl, rfl⟩
 apply NDr.pure
 ·refine NCall.call (k1) rfl rfl ?_
  exact ⟨rfl, rfl⟩
 apply NDr.rd [0]
 ·intro fH TH
  exact ⟨rfl, rfl⟩
 apply NDr.rd [0]
 ·intro fH TH
  exact ⟨rfl, rfl⟩
 apply NDr.pure
 ·refine NCall.call (k2) rfl rfl ?_
  exact ⟨rfl, rfl⟩
 refine NDr.w _ ?_
 apply NDr.rd [0]
 ·intro fH TH
  exact ⟨rfl, rfl⟩
 refine NP.mk (by kernel_rfl) ?_
 refine NLoop.mk [(6, .agg 4)] [2, 4, 6, 20, 21, 22] (fun m vs H => ∃ i, i ≤ l.length ∧ m = l.length - i ∧ H = [.row .box (.agg 2) [.agg (storeC s)], .row .box (.agg 2) [.agg [.nils, .nils]], .row .vrow (.agg 4) (((l.take i).filter okT).map txnA)] ∧
  vs = [.ptr 0 0 0, .ptr 1 0 0, .own 2 0 (((l.take i).filter okT).map txnA).length, txnsA l, i64 l.length, i64 i]) rfl ?_ ?_
 ·exact Canon.mk [0, 1, 2] rfl ⟨l.length, 0, Nat.zero_le _, rfl, rfl, by simp [txnsA, i64]⟩
 rintro m vs H ⟨i, hil, rfl, rfl, rfl⟩
 by_cases hil : i < l.length
 ·have hsn := filter_take okT l hil
  have hfl : ((l.take i).filter okT).length ≤ i := Nat.le_trans (List.length_filter_le _ _) (by rw [List.length_take]; omega)
  have k3 := formed_walk l[i] (hx _ (List.getElem_mem hil))
  generalize (l.take i).filter okT = F at *
  cases hp : formed l[i] with
  | true =>
   rw [show okT l[i] = true from hp, if_pos rfl] at hsn
   rw [hp] at k3
   refine ND.yes (by omega) ?_
   refine NP.mk (by omega) ?_
   refine NG.mapN (by omega) ?_
   refine NCall.call (k3) rfl rfl ?_
   refine NFz.own ?_
   refine NApp.endA rfl (by simp; omega) ?_
   refine NW.w ?_
   exact Canon.mk [0, 1, 4] rfl ⟨l.length - (i + 1), by omega, i + 1, by omega, rfl, by rw [hsn, List.map_append]; rfl, by rw [hsn, List.map_append]; rfl⟩
  | false =>
   rw [show okT l[i] = false from hp, if_neg (by simp)] at hsn
   rw [hp] at k3
   refine ND.yes (by omega) ?_
   refine NP.mk (by omega) ?_
   refine NG.mapN (by omega) ?_
   refine NCall.call (k3) rfl rfl ?_
   refine NW.w ?_
   exact Canon.mk [0, 1, 2] rfl ⟨l.length - (i + 1), by omega, i + 1, by omega, rfl, by rw [hsn] <;> rfl, by rw [hsn] <;> rfl⟩
 have : i = l.length := by omega
 subst this
 rw [List.take_length]
 have hF : ∀ t ∈ l.filter okT, smTxn t := fun t ht => hx t (List.mem_filter.1 ht).1
 have hFl := List.length_filter_le okT l
 have k4 := take_walk s.heard (l.filter okT) (by omega) (by omega) hF
 refine ND.no (by omega) ?_
 refine NCall.eq (by simp only [List.length_map] <;> exact rfl) ?_
 refine NCall.frzAllN [2] (k4) (.cons (.same _) (.cons (.own (by simp) rfl (by simp) (by simp) (by rw [List.drop_zero, List.take_of_length_le (by simp)])) .nil)) rfl rfl rfl ?_
 have hc := takeT_chain s.heard (l.filter okT)
 have hcf := done_formed (v := s.heard) (l := l)
 have hcl := takeT_len s.heard (l.filter okT)
 have hcx : ∀ t ∈ (takeT s.heard (l.filter okT)).1, smTxn t := fun t ht => hF t (takeT_mem ht)
 have hall : allS s l = ((takeT s.heard (l.filter okT)).1.foldl doT s, (takeT s.heard (l.filter okT)).1) := rfl
 rw [hall]
 generalize (takeT s.heard (l.filter okT)).1 = c at *
 refine NLoop.mk [] [2, 4, 9, 40, 41, 42] (fun m vs H => ∃ i, i ≤ c.length ∧ m = c.length - i ∧ H = [.row .box (.agg 2) [.agg (storeC ((c.take i).foldl doT s))], .row .box (.agg 2) [.agg [.nils, .nils]]] ∧
  vs = [.ptr 0 0 0, .ptr 1 0 0, txnsA c, txnsA c, i64 c.length, i64 i]) rfl ?_ ?_
 ·exact Canon.mk [0, 1] rfl ⟨c.length, 0, Nat.zero_le _, rfl, rfl, by simp [txnsA, i64]⟩
 rintro m vs H ⟨i, hil, rfl, rfl, rfl⟩
 by_cases hil : i < c.length
 ·have hsn := foldl_snoc' doT s hil
  have hsm := done_sm (c.take i) ⟨h1, hi, h3⟩ (fun t ht => hcf t (List.mem_of_mem_take ht)) (fun t ht => hcx t (List.mem_of_mem_take ht)) (by rw [List.length_take]; omega)
  have hr := chain_at hc hil
  rw [← foldl_heard] at hr
  have hf := hcf _ (List.getElem_mem hil)
  have k5 := storeDo_walk ((c.take i).foldl doT s) c[i] hsm (hcx _ (List.getElem_mem hil)) (by have := formed_len hf; omega)
  rw [if_pos hf, if_neg (by rw [ready_old hr]; simp), if_pos hr] at k5
  rw [← hsn] at k5
  generalize (c.take i).foldl doT s = u at *
  obtain ⟨w, hw⟩ : ∃ w, w = (c.take (i + 1)).foldl doT s := ⟨_, rfl⟩
  rw [← hw] at k5
  refine ND.yes (by omega) ?_
  refine NP.mk (by omega) ?_
  refine NG.mapN (by omega) ?_
  refine NCall.call (k5) rfl rfl ?_
  refine NW.w ?_
  exact Canon.mk [0, 1] rfl ⟨c.length - (i + 1), by omega, i + 1, by omega, rfl, by rw [← hw] <;> rfl, rfl⟩
 have : i = c.length := by omega
 subst this
 rw [List.take_length]
 refine ND.no (by omega) ?_
 exact NRet.mk [] rfl ⟨.refl _, rfl⟩
theorem same15_walk (a b : Store) (ha : a.heard.length ≤ 2 ^ 38) (hai : a.items.length ≤ 2 ^ 38) : ACalls Tryz.prog Nm.ref15_Same [storeA a, storeA b] [] (.bool (decide (a = b))) [] := by
 refine ACalls_of tab (dr_snd tab mixed) Nm.ref15_Same_h rfl (by kernel_rfl) (Nat.le_of_ble_eq_true rfl) rfl ?_
 have h1 := equal7_walk a.heard b.heard (by omega)
 have h2 := same9_walk a.items b.items hai
 by_cases e1 : a.heard = b.heard
 ·rw [decide_eq_true e1] at h1
  by_cases e2 : a.items = b.items
  ·rw [decide_eq_true e2] at h2
   rw [decide_eq_true (show a = b from Store.ext e1 e2)]
   refine NCall.call (h1) rfl rfl ?_
   refine NCall.call (h2) rfl rfl ?_
   exact NRet.mk [] rfl ⟨.refl _, rfl⟩
  ·rw [decide_eq_false e2] at h2
   rw [decide_eq_false fun e => e2 (by rw [e])]
   refine NCall.call (h1) rfl rfl ?_
   refine NCall.call (h2) rfl rfl ?_
   exact NRet.mk [] rfl ⟨.refl _, rfl⟩
 ·rw [decide_eq_false e1] at h1
  rw [decide_eq_false fun e => e1 (by rw [e])]
  refine NCall.call (h1) rfl rfl ?_
  exact NRet.mk [] rfl ⟨.refl _, rfl⟩
def shortS (s : Store) : Bool := decide (s.heard.length ≤ 60) && shortIs s.items
theorem short15_walk (s : Store) (h1 : s.heard.length ≤ 2 ^ 47) (h2 : s.items.length ≤ 2 ^ 47) (hx : ∀ x ∈ s.items, okItem x) : ACalls Tryz.prog Nm.ref15_Short [storeA s] [] (.bool (shortS s)) [] := by
 refine ACalls_of tab (dr_snd tab mixed) Nm.ref15_Short_h rfl (by kernel_rfl) (Nat.le_of_ble_eq_true rfl) rfl ?_
 have k1 := short9_walk s.items h2 hx
 unfold shortS
 by_cases h : s.heard.length ≤ 60
 ·rw [decide_eq_true h, Bool.true_and]
  refine ND.yes (by (simp only [zLm, zLa, zLr, zLc, zLn, zLt, zLd]; omega)) ?_
  refine NCall.call (k1) rfl rfl ?_
  exact NRet.mk [] rfl ⟨.refl _, rfl⟩
 ·rw [decide_eq_false h, Bool.false_and]
  refine ND.no (by (simp only [zLm, zLa, zLr, zLc, zLn, zLt, zLd]; omega)) ?_
  exact NRet.mk [] rfl ⟨.refl _, rfl⟩
end Go.Bv
namespace Go.Bv
open Go Go.Proofs
def underS (s : Store) (p : List UInt8 → Bool) : Store := ⟨s.heard, underI s.items p⟩
end Go.Bv
namespace Go.Bv
set_option linter.unusedSimpArgs false
set_option linter.unusedVariables false
set_option maxHeartbeats 4000000
set_option maxRecDepth 20000
open Go Go.Proofs
theorem underF_walk (z : List (List UInt8)) (x : Item) (hz : z.length ≤ 2 ^ 40) (hx : smItem x) : ACalls Tryz.prog Nm.item_Under_1 [itemA x, .ptr 0 0 0] [.row .box .leaf [.list .leaf (z.map AV.str)]] (.bool (!z.any (begins x.key))) [.row .box .leaf [.list .leaf (z.map AV.str)]] := by
 refine ACalls_of tab (dr_snd tab mixed) Nm.item_Under_1_h rfl (by kernel_rfl) (Nat.le_of_ble_eq_true rfl) rfl ?_
 have k1 := covers_walk z x.key hz (by have := hx.1; omega)
 refine NCall.call (k1) rfl rfl ?_
 refine NB.mk (fun hk1 => ?_) (fun hk1 => ?_)
 ·refine NRet.boolE (b := false) ?_ (NRet.mk [] rfl ⟨.refl _, rfl⟩)
  (simp [*]; done)
 refine NRet.boolE (b := true) ?_ (NRet.mk [] rfl ⟨.refl _, rfl⟩)
 (simp [*]; done)
theorem itemUnder_walk (l : List Item) (z : List (List UInt8)) (hl : l.length ≤ 2 ^ 38) (hz : z.length ≤ 2 ^ 40) (hx : ∀ x ∈ l, smItem x) : ACalls Tryz.prog Nm.item_Under [itemsA l, strsA z] [] (itemsA (underI l fun k => z.any (begins k))) [] := by
 refine ACalls_of tab (dr_snd tab mixed) Nm.item_Under_h rfl (by kernel_rfl) (Nat.le_of_ble_eq_true rfl) rfl ?_
 have k1 := cloneI_walk l hl
 have k2 := deleteM_walk Nm.item_Under_1 .leaf (z.map AV.str) (fun _ x => !z.any (begins x.key)) l hl (fun _ x hm => underF_walk z x hz (hx x hm))
 have e : keepD (fun _ x => !z.any (begins x.key)) l = underI l fun k => z.any (begins k) := by
  rw [keepD_filter]
  unfold underI
  congr 1; funext x
  rw [Bool.not_not]
 rw [e] at k2
 have hle : (underI l fun k => z.any (begins k)).length ≤ l.length := List.length_filter_le _ _
 generalize (underI l fun k => z.any (begins k)) = R at *
 refine NCall.atA (ACalls.frame (k1) rfl _) ?_
 refine NCall.subA [1, 0] (k2) ?_
 exact NRet.mk [] rfl (NFrz.mk (R.map itemA) (by simp) (by rw [List.drop_zero, List.take_append_of_le_length (by simp), List.take_of_length_le (by simp)]) ⟨.refl _, rfl⟩)
theorem storeUnderS_walk (s : Store) (z : List (List UInt8)) (hs : smS s) (hz : z.length ≤ 2 ^ 40) : ACalls Tryz.prog Nm.store_Under [storeA s, strsA z] [] (storeA (underS s fun k => z.any (begins k))) [] := by
 refine ACalls_of tab (dr_snd tab mixed) Nm.store_Under_h rfl (by kernel_rfl) (Nat.le_of_ble_eq_true rfl) rfl ?_
 have k1 := cloneV_list s.heard (by have := hs.1; omega)
 have k2 := itemUnder_walk s.items z (by have := hs.2.1; omega) hz hs.2.2
 refine NP.mk (by kernel_rfl) ?_
 apply NDr.rd [0]
 ·intro fH TH
  exact ⟨rfl, rfl⟩
 apply NDr.rd [0]
 ·intro fH TH
  exact ⟨rfl, rfl⟩
 apply NDr.pure
 ·refine NCall.call (k1) rfl rfl ?_
  exact ⟨rfl, rfl⟩
 apply NDr.rd [0]
 ·intro fH TH
  exact ⟨rfl, rfl⟩
 apply NDr.rd [0]
 ·intro fH TH
  exact ⟨rfl, rfl⟩
 refine NDr.w _ ?_
 apply NDr.pure
 ·refine NCall.call (k2) rfl rfl ?_
  exact ⟨rfl, rfl⟩
 refine NDr.w _ ?_
 apply NDr.efw [1]
 ·exact ⟨rfl, rfl⟩
 ·repeat (first | exact True.intro | refine ⟨by first | exact rfl | exact True.intro, ?_⟩)
 refine NP.mk (by kernel_rfl) ?_
 exact NRet.mk [] rfl ⟨.refl _, rfl⟩
end Go.Bv
namespace Go.Bv
set_option linter.unusedSimpArgs false
set_option linter.unusedVariables false
set_option maxHeartbeats 4000000
set_option maxRecDepth 20000
open Go Go.Proofs
end Go.Bv
namespace Go.Bv
set_option linter.unusedSimpArgs false
set_option linter.unusedVariables false
set_option maxHeartbeats 4000000
open Go Go.Proofs
theorem shortT_sm {l : List Txn} (h : shortT l = true) (ho : ∀ t ∈ l, okTxn t) : l.length ≤ 24 ∧ ∀ t ∈ l, smTxn t := by
 unfold shortT at h
 rw [Bool.and_eq_true, List.all_eq_true] at h
 refine ⟨of_decide_eq_true h.1, fun t ht => ?_⟩
 have := h.2 t ht
 rw [Bool.and_eq_true] at this
 obtain ⟨h1, h2⟩ := this
 have h1 := of_decide_eq_true h1
 unfold shortEs at h2
 rw [Bool.and_eq_true, List.all_eq_true] at h2
 have h3 := of_decide_eq_true h2.1
 refine ⟨(ho t ht).2.1, by omega, by omega, fun e he => ?_⟩
 have := of_decide_eq_true (h2.2 e he)
 exact ⟨by omega, by omega, by omega, by omega⟩
theorem short1_sm {t : Txn} (h : shortT [t] = true) (ho : okTxn t) : smTxn t := (shortT_sm h (by simpa using ho)).2 t (by simp)
end Go.Bv
namespace Go.Bv
set_option linter.unusedSimpArgs false
set_option linter.unusedVariables false
set_option maxHeartbeats 4000000
open Go Go.Proofs
end Go.Bv
namespace Go.Bv
set_option linter.unusedSimpArgs false
set_option linter.unusedVariables false
set_option maxHeartbeats 4000000
set_option maxRecDepth 20000
open Go Go.Proofs
theorem shortT_effs {l : List Txn} (h : shortT l = true) : ∀ t ∈ l, t.effs.length ≤ 20 := fun t ht => by
 unfold shortT at h
 rw [Bool.and_eq_true, List.all_eq_true] at h
 have := h.2 t ht
 rw [Bool.and_eq_true] at this
 have h2 := this.2
 unfold shortEs at h2
 rw [Bool.and_eq_true] at h2
 exact of_decide_eq_true h2.1
theorem shortIs_sm {l : List Item} (h : shortIs l = true) : l.length ≤ 60 ∧ ∀ e ∈ l, smItem e := by
 unfold shortIs at h
 rw [Bool.and_eq_true, List.all_eq_true] at h
 refine ⟨of_decide_eq_true h.1, fun e he => ?_⟩
 have := of_decide_eq_true (h.2 e he)
 exact ⟨by omega, by omega, by omega⟩
theorem shortS_sm {s : Store} (h : shortS s = true) : s.heard.length ≤ 60 ∧ s.items.length ≤ 60 ∧ ∀ x ∈ s.items, smItem x := by
 unfold shortS at h
 rw [Bool.and_eq_true] at h
 exact ⟨of_decide_eq_true h.1, shortIs_sm h.2⟩
def p15 (n : Int) : Txn := ⟨n, 1, [], [⟨0, [97], [], 2, [120], 0, []⟩]⟩
def i15 (n : Int) : Item := ⟨[97], [], 2, [120], 0, ⟨n, 1, 0⟩⟩
theorem do15 : [p15 1, p15 0].foldl doI [] = [i15 0, i15 1] := by
 have e1 : doI [] (p15 1) = [i15 1] := by
  show norm (rawE 1 1 [] ⟨0, [97], [], 2, [120], 0, []⟩) = _
  rw [show rawE 1 1 [] ⟨0, [97], [], 2, [120], 0, []⟩ = [i15 1] by decide]
  exact norm_self (by simp) (by simp)
 have e2 : doI [i15 1] (p15 0) = [i15 0, i15 1] := by
  show norm (rawE 0 1 [i15 1] ⟨0, [97], [], 2, [120], 0, []⟩) = _
  rw [show rawE 0 1 [i15 1] ⟨0, [97], [], 2, [120], 0, []⟩ = [i15 1, i15 0] by decide]
  rw [norm_congr (m := [i15 0, i15 1]) (fun x => by simp [or_comm])]
  refine norm_self ?_ ?_
  ·simp only [List.pairwise_cons, List.mem_cons, List.not_mem_nil, or_false, forall_eq, false_implies, implies_true, List.Pairwise.nil, and_true]
   exact of_decide_eq_true (by decide : decide (ILt (i15 0) (i15 1)) = true)
  ·simp only [List.pairwise_cons, List.mem_cons, List.not_mem_nil, or_false, forall_eq, false_implies, implies_true, List.Pairwise.nil, and_true]
   decide
 rw [List.foldl_cons, e1, List.foldl_cons, e2, List.foldl_nil]
theorem all15 : allS ⟨[], []⟩ [p15 1, p15 0] = (⟨[1, 1], [i15 0, i15 1]⟩, [p15 1, p15 0]) := by
 rw [allS_eq]
 simp only
 rw [show [p15 1, p15 0].filter okT = [p15 1, p15 0] by kernel_rfl, takeT_of_chain (by kernel_rfl)]
 simp only [do15]
 rfl
theorem sound15 : soundS ⟨[1, 1], [i15 0, i15 1]⟩ = true := by
 have h0 : soundS ⟨[], []⟩ = true := soundS_iff.2 ⟨by simp, ⟨rfl, by simp⟩, by unfold norm isort; simp [nubF], by simp⟩
 have := (all_sound h0 [p15 1, p15 0]).1
 rwa [all15] at this
theorem put15 (n : Int) : ACalls Tryz.prog Nm.law15_awake_1 [i64 n] [] (txnA (p15 n)) [] := by
 refine ACalls_of tab (dr_snd tab mixed) Nm.law15_awake_1_h rfl (by kernel_rfl) (Nat.le_of_ble_eq_true rfl) rfl ?_
 skip
 refine NRet.mk [] rfl ⟨?_, rfl⟩
 show LeA (.agg [i64 n, i64 1, .nils, .list (.agg 7) [.agg [i64 0, .str [97], .str [], i64 2, .str [120], i64 0, .nils]]]) (.agg [i64 n, i64 1, .list .leaf [], .list (.agg 7) [.agg [i64 0, .str [97], .str [], i64 2, .str [120], i64 0, .list (.agg 3) []]]])
 repeat (first | exact LeA.refl _ | exact LeA.nils _ | refine LeA.agg ?_ | refine LeA.list _ ?_ | exact LeAs.nil | refine LeAs.cons ?_ ?_)
theorem awake15 : ACalls Tryz.prog Nm.law15_awake [] [] (.bool true) [] := by
 refine ACalls_of tab (dr_snd tab mixed) Nm.law15_awake_h rfl (by kernel_rfl) (Nat.le_of_ble_eq_true rfl) rfl ?_
 have h1 := storeAll_walk ⟨[], []⟩ [p15 1, p15 0] ⟨by simp, by simp, by simp⟩ (by simp) (by simp [smTxn, okInt, p15, smEff]) (by simp)
 rw [all15] at h1
 have h2 := sound_walk ⟨[1, 1], [i15 0, i15 1]⟩ ⟨by simp, by simp, by simp [smItem, i15]⟩
 rw [sound15] at h2
 refine NCall.call (put15 1) rfl rfl ?_
 refine NCall.call (put15 0) rfl rfl ?_
 refine NCall.call (ACalls.args (h1) (by repeat (first | exact LeA.refl _ | exact LeA.nils _ | refine LeA.agg ?_ | refine LeA.list _ ?_ | exact LeAs.nil | refine LeAs.cons ?_ ?_))) rfl rfl ?_
 refine ND.yes (by rfl) ?_
 refine ND.yes (by rfl) ?_
 refine NP.mk (by omega) ?_
 refine NG.mapN (by (simp only [zLm, zLa, zLr, zLc, zLn, zLt, zLd]; omega)) ?_
 refine ND.yes (by rfl) ?_
 refine NCall.call (h2) rfl rfl ?_
 exact NRet.mk [] rfl ⟨.refl _, rfl⟩
theorem okS {s : Store} (h : okStore s) : s.heard.length ≤ 2 ^ 47 ∧ s.items.length ≤ 2 ^ 47 := by
 have h1 := reach_lt h.1.1
 have h2 := reach_lt h.2.1
 omega
theorem done_len (s : Store) (l : List Txn) : (allS s l).2.length ≤ l.length := by
 unfold allS
 have h3 := takeT_len s.heard (l.filter okT)
 have h4 := List.length_filter_le okT l
 simp only; omega
theorem allS_sm {s : Store} {l : List Txn} (h : s.heard.length ≤ 2 ^ 38 ∧ s.items.length ≤ 40000 ∧ ∀ x ∈ s.items, smItem x) (hx : ∀ t ∈ l, smTxn t) (hl : l.length ≤ 1000) : smS (allS s l).1 := by
 unfold allS
 refine done_sm _ h done_formed (fun t ht => ?_) ?_
 ·exact hx t (List.mem_filter.1 (takeT_mem ht)).1
 ·have := done_len s l
  unfold allS at this
  simp only at this ⊢
  omega
theorem same15_self (s : Store) (h : smS s) : ACalls Tryz.prog Nm.ref15_Same [storeA s, storeA s] [] (.bool true) [] := by
 have := same15_walk s s h.1 (by have := h.2.1; omega)
 rwa [decide_eq_true rfl] at this
end Go.Bv
namespace Go.Bv
set_option linter.unusedSimpArgs false
set_option linter.unusedVariables false
set_option maxHeartbeats 4000000
set_option maxRecDepth 20000
open Go Go.Proofs
theorem sound15_walk (s : Store) (hs : smS s) : ACalls Tryz.prog Nm.ref15_Sound [storeA s] [] (.bool (soundS s)) [] := by
 refine ACalls_of tab (dr_snd tab mixed) Nm.ref15_Sound_h rfl (by kernel_rfl) (Nat.le_of_ble_eq_true rfl) rfl ?_
 obtain ⟨g1, g2, g3⟩ := hs
 by_cases h1 : s.heard.length ≤ 8
 rotate_left
 ·rw [show soundS s = false by unfold soundS; rw [decide_eq_false h1]; rfl]
  refine NP.mk (by kernel_rfl) ?_
  apply NDr.rd [0]
  ·intro fH TH
   exact ⟨rfl, rfl⟩
  apply NDr.rd [0]
  ·intro fH TH
   exact ⟨rfl, rfl⟩
  refine NDr.w _ ?_
  apply NDr.pure
  ·refine ND.yes (by (simp only [zLm, zLa, zLr, zLc, zLn, zLt, zLd]; omega)) ?_
   exact ⟨rfl, rfl⟩
  refine NDr.w _ ?_
  refine NDr.w _ ?_
  refine NP.mk (by kernel_rfl) ?_
  exact NRet.mk [] rfl ⟨.refl _, rfl⟩
 have k1 := trim7_walk s.heard (by omega)
 have k2 := equal7_walk s.heard (trim s.heard) (by omega)
 by_cases h2 : trim s.heard = s.heard
 rotate_left
 ·rw [show soundS s = false by unfold soundS vecOk; rw [decide_eq_false h2]; simp]
  rw [decide_eq_false (fun h => h2 h.symm)] at k2
  generalize trim s.heard = w at *
  refine NP.mk (by kernel_rfl) ?_
  apply NDr.rd [0]
  ·intro fH TH
   exact ⟨rfl, rfl⟩
  apply NDr.rd [0]
  ·intro fH TH
   exact ⟨rfl, rfl⟩
  refine NDr.w _ ?_
  apply NDr.pure
  ·refine ND.no (by (simp only [zLm, zLa, zLr, zLc, zLn, zLt, zLd]; omega)) ?_
   exact ⟨rfl, rfl⟩
  refine NDr.w _ ?_
  apply NDr.rd [0]
  ·intro fH TH
   exact ⟨rfl, rfl⟩
  apply NDr.rd [0]
  ·intro fH TH
   exact ⟨rfl, rfl⟩
  apply NDr.rd [0]
  ·intro fH TH
   exact ⟨rfl, rfl⟩
  apply NDr.rd [0]
  ·intro fH TH
   exact ⟨rfl, rfl⟩
  apply NDr.pure
  ·refine NCall.call (k1) rfl rfl ?_
   exact ⟨rfl, rfl⟩
  apply NDr.pure
  ·refine NCall.call (k2) rfl rfl ?_
   exact ⟨rfl, rfl⟩
  refine NDr.w _ ?_
  refine NDr.w _ ?_
  refine NP.mk (by kernel_rfl) ?_
  exact NRet.mk [] rfl ⟨.refl _, rfl⟩
 rw [decide_eq_true h2.symm] at k2
 have e1 : soundS s = ((s.heard.all fun n => decide (n ≤ 1073741824)) && (decide (norm s.items = s.items) && s.items.all (heldB s.heard))) := by
  unfold soundS vecOk
  rw [decide_eq_true h1, decide_eq_true h2, Bool.true_and, Bool.true_and]
 rw [e1]
 rw [h2] at k1 k2
 refine NP.mk (by kernel_rfl) ?_
 apply NDr.rd [0]
 ·intro fH TH
  exact ⟨rfl, rfl⟩
 apply NDr.rd [0]
 ·intro fH TH
  exact ⟨rfl, rfl⟩
 refine NDr.w _ ?_
 apply NDr.pure
 ·refine ND.no (by (simp only [zLm, zLa, zLr, zLc, zLn, zLt, zLd]; omega)) ?_
  exact ⟨rfl, rfl⟩
 refine NDr.w _ ?_
 apply NDr.rd [0]
 ·intro fH TH
  exact ⟨rfl, rfl⟩
 apply NDr.rd [0]
 ·intro fH TH
  exact ⟨rfl, rfl⟩
 apply NDr.rd [0]
 ·intro fH TH
  exact ⟨rfl, rfl⟩
 apply NDr.rd [0]
 ·intro fH TH
  exact ⟨rfl, rfl⟩
 apply NDr.pure
 ·refine NCall.call (k1) rfl rfl ?_
  exact ⟨rfl, rfl⟩
 apply NDr.pure
 ·refine NCall.call (k2) rfl rfl ?_
  exact ⟨rfl, rfl⟩
 refine NDr.w _ ?_
 refine NDr.w _ ?_
 refine NP.mk (by kernel_rfl) ?_
 refine NLoop.mk [] [1, 3] (fun m vs H => ∃ i, i ≤ s.heard.length ∧ m = s.heard.length - i ∧ (∀ n ∈ s.heard.take i, decide (n ≤ 1073741824) = true) ∧ H = [storeB s] ∧ vs = [.ptr 0 0 0, i64 i]) rfl ?_ ?_
 ·exact Canon.mk [0] rfl ⟨s.heard.length, 0, Nat.zero_le _, rfl, by simp, rfl, rfl⟩
 rintro m vs H ⟨i, hi, rfl, ht, rfl, rfl⟩
 by_cases hil : i < s.heard.length
 ·obtain ⟨f1, f2⟩ := all_step (p := fun n : Int => decide (n ≤ 1073741824)) hil ht
  by_cases hn : s.heard[i] ≤ 1073741824
  ·have f2 := f2 (decide_eq_true hn)
   refine ND.yes (by (simp only [zLm, zLa, zLr, zLc, zLn, zLt, zLd]; omega)) ?_
   refine NP.mk (by omega) ?_
   refine NG.mapN (by omega) ?_
   refine ND.no (by omega) ?_
   refine NW.w ?_
   exact Canon.mk [0] rfl ⟨s.heard.length - (i + 1), by omega, i + 1, by omega, rfl, f2, rfl, rfl⟩
  ·rw [f1 (decide_eq_false hn), Bool.false_and]
   refine ND.yes (by (simp only [zLm, zLa, zLr, zLc, zLn, zLt, zLd]; omega)) ?_
   refine NP.mk (by omega) ?_
   refine NG.mapN (by omega) ?_
   refine ND.yes (by omega) ?_
   exact NRet.mk [] rfl ⟨.refl _, rfl⟩
 have : i = s.heard.length := by omega
 subst this
 rw [all_end ht, Bool.true_and]
 refine ND.no (by (simp only [zLm, zLa, zLr, zLc, zLn, zLt, zLd]; omega)) ?_
 refine NLoop.mk [] [1, 4] (fun m vs H => ∃ i, i ≤ s.items.length ∧ m = s.items.length - i ∧ (∀ x ∈ s.items.take i, heldB s.heard x = true) ∧ H = [storeB s] ∧ vs = [.ptr 0 0 0, i64 i]) rfl ?_ ?_
 ·exact Canon.mk [0] rfl ⟨s.items.length, 0, Nat.zero_le _, rfl, by simp, rfl, rfl⟩
 rintro m vs H ⟨i, hi, rfl, ht, rfl, rfl⟩
 by_cases hil : i < s.items.length
 ·obtain ⟨f1, f2⟩ := all_step (p := heldB s.heard) hil ht
  have k3 := item9_walk s.items[i] (g3 _ (List.getElem_mem hil))
  have k4 := at7_walk s.heard s.items[i].dot.node (by omega)
  cases ho : itemOk s.items[i] with
  | false =>
   rw [ho] at k3
   have : heldB s.heard s.items[i] = false := by unfold heldB; rw [ho]; rfl
   rw [f1 this, Bool.and_false]
   refine ND.yes (by (simp only [zLm, zLa, zLr, zLc, zLn, zLt, zLd]; omega)) ?_
   refine NP.mk (by omega) ?_
   refine NG.mapN (by omega) ?_
   refine NP.mk (by kernel_rfl) ?_
   apply NDr.rd [1]
   ·intro fH TH
    exact ⟨rfl, rfl⟩
   apply NDr.pure
   ·refine NCall.call (k3) rfl rfl ?_
    exact ⟨rfl, rfl⟩
   refine NDr.w _ ?_
   refine NDr.w _ ?_
   refine NDr.w _ ?_
   refine NP.mk (by kernel_rfl) ?_
   exact NRet.mk [] rfl ⟨.refl _, rfl⟩
  | true =>
   rw [ho] at k3
   have hseq : 1 ≤ s.items[i].dot.seq := by
    unfold itemOk dotOk at ho
    simp only [Bool.and_eq_true, decide_eq_true_eq] at ho
    exact ho.2.2.2.2.2.2.1
   by_cases hb : s.items[i].dot.seq ≤ vatI s.heard s.items[i].dot.node
   ·have f2 := f2 (by unfold heldB hasB; rw [ho, decide_eq_true ⟨hseq, hb⟩]; rfl)
    refine ND.yes (by (simp only [zLm, zLa, zLr, zLc, zLn, zLt, zLd]; omega)) ?_
    refine NP.mk (by omega) ?_
    refine NG.mapN (by omega) ?_
    refine NP.mk (by kernel_rfl) ?_
    apply NDr.rd [1]
    ·intro fH TH
     exact ⟨rfl, rfl⟩
    apply NDr.pure
    ·refine NCall.call (k3) rfl rfl ?_
     exact ⟨rfl, rfl⟩
    refine NDr.w _ ?_
    refine NDr.w _ ?_
    apply NDr.rd [1]
    ·intro fH TH
     exact ⟨rfl, rfl⟩
    apply NDr.rd [1]
    ·intro fH TH
     exact ⟨rfl, rfl⟩
    apply NDr.rd [1]
    ·intro fH TH
     exact ⟨rfl, rfl⟩
    apply NDr.rd [0]
    ·intro fH TH
     exact ⟨rfl, rfl⟩
    apply NDr.rd [0]
    ·intro fH TH
     exact ⟨rfl, rfl⟩
    apply NDr.rd [1]
    ·intro fH TH
     exact ⟨rfl, rfl⟩
    apply NDr.rd [1]
    ·intro fH TH
     exact ⟨rfl, rfl⟩
    apply NDr.rd [1]
    ·intro fH TH
     exact ⟨rfl, rfl⟩
    apply NDr.pure
    ·refine NCall.call (k4) rfl rfl ?_
     exact ⟨rfl, rfl⟩
    apply NDr.pure
    ·refine ND.no (by omega) ?_
     exact ⟨rfl, rfl⟩
    refine NDr.w _ ?_
    refine NP.mk (by kernel_rfl) ?_
    refine NW.w ?_
    exact Canon.mk [0] rfl ⟨s.items.length - (i + 1), by omega, i + 1, by omega, rfl, f2, rfl, rfl⟩
   ·have : heldB s.heard s.items[i] = false := by unfold heldB hasB; rw [decide_eq_false (fun h => hb h.2), Bool.and_false]
    rw [f1 this, Bool.and_false]
    refine ND.yes (by (simp only [zLm, zLa, zLr, zLc, zLn, zLt, zLd]; omega)) ?_
    refine NP.mk (by omega) ?_
    refine NG.mapN (by omega) ?_
    refine NP.mk (by kernel_rfl) ?_
    apply NDr.rd [1]
    ·intro fH TH
     exact ⟨rfl, rfl⟩
    apply NDr.pure
    ·refine NCall.call (k3) rfl rfl ?_
     exact ⟨rfl, rfl⟩
    refine NDr.w _ ?_
    refine NDr.w _ ?_
    apply NDr.rd [1]
    ·intro fH TH
     exact ⟨rfl, rfl⟩
    apply NDr.rd [1]
    ·intro fH TH
     exact ⟨rfl, rfl⟩
    apply NDr.rd [1]
    ·intro fH TH
     exact ⟨rfl, rfl⟩
    apply NDr.rd [0]
    ·intro fH TH
     exact ⟨rfl, rfl⟩
    apply NDr.rd [0]
    ·intro fH TH
     exact ⟨rfl, rfl⟩
    apply NDr.rd [1]
    ·intro fH TH
     exact ⟨rfl, rfl⟩
    apply NDr.rd [1]
    ·intro fH TH
     exact ⟨rfl, rfl⟩
    apply NDr.rd [1]
    ·intro fH TH
     exact ⟨rfl, rfl⟩
    apply NDr.pure
    ·refine NCall.call (k4) rfl rfl ?_
     exact ⟨rfl, rfl⟩
    apply NDr.pure
    ·refine ND.yes (by omega) ?_
     exact ⟨rfl, rfl⟩
    refine NDr.w _ ?_
    refine NP.mk (by kernel_rfl) ?_
    exact NRet.mk [] rfl ⟨.refl _, rfl⟩
 have : i = s.items.length := by omega
 subst this
 rw [all_end ht, Bool.and_true]
 have k5 := norm9_walk s.items (by omega)
 have k6 := same9_walk s.items (norm s.items) (by omega)
 rw [show decide (s.items = norm s.items) = decide (norm s.items = s.items) by congr 1; exact propext eq_comm] at k6
 generalize decide (norm s.items = s.items) = b at *
 generalize norm s.items = N at *
 refine ND.no (by (simp only [zLm, zLa, zLr, zLc, zLn, zLt, zLd]; omega)) ?_
 refine NP.mk (by kernel_rfl) ?_
 apply NDr.rd [0]
 ·intro fH TH
  exact ⟨rfl, rfl⟩
 apply NDr.rd [0]
 ·intro fH TH
  exact ⟨rfl, rfl⟩
 apply NDr.rd [0]
 ·intro fH TH
  exact ⟨rfl, rfl⟩
 apply NDr.rd [0]
 ·intro fH TH
  exact ⟨rfl, rfl⟩
 apply NDr.pure
 ·refine NCall.call (k5) rfl rfl ?_
  exact ⟨rfl, rfl⟩
 apply NDr.pure
 ·refine NCall.call (k6) rfl rfl ?_
  exact ⟨rfl, rfl⟩
 refine NDr.w _ ?_
 refine NP.mk (by kernel_rfl) ?_
 exact NRet.mk [] rfl ⟨.refl _, rfl⟩
theorem do15_walk (s : Store) (t : Txn) (hs : smS s) (ht : smTxn t) (hn : t.effs.length ≤ 100) : ACalls Tryz.prog Nm.ref15_Do [storeA s, txnA t] [] (if formed t = true then if hasB s.heard t.node t.seq = true then .tup [storeA ⟨[], []⟩, i64 8] else if ready s.heard t = true then .tup [storeA (doT s t), i64 0] else .tup [storeA ⟨[], []⟩, i64 9] else .tup [storeA ⟨[], []⟩, i64 2]) [] := by
 refine ACalls_of tab (dr_snd tab mixed) Nm.ref15_Do_h rfl (by kernel_rfl) (Nat.le_of_ble_eq_true rfl) rfl ?_
 obtain ⟨h1, h2, h3⟩ := hs
 have k1 := formed13_walk t ht
 have k3 := at7_walk s.heard t.node (by omega)
 have k4 := ready14_walk s.heard t h1 (by have := ht.2.1; omega) ht.1
 have k5 := next14_walk s.heard t (by omega)
 have k6 := do10_walk s.items t.node t.seq t.effs h2 (by omega) ht.2.2.2
 obtain ⟨r, hr⟩ : ∃ r, r = (if formed t = true then if hasB s.heard t.node t.seq = true then AV.tup [storeA ⟨[], []⟩, i64 8] else if ready s.heard t = true then .tup [storeA (doT s t), i64 0] else .tup [storeA ⟨[], []⟩, i64 9] else .tup [storeA ⟨[], []⟩, i64 2]) := ⟨_, rfl⟩
 rw [← hr]
 cases e1 : formed t with
 | false =>
  rw [e1] at k1 hr
  rw [if_neg (by simp)] at hr
  subst hr
  refine NCall.call (k1) rfl rfl ?_
  exact NRet.mk [] rfl ⟨by repeat (first | exact LeA.refl _ | exact LeA.nils _ | refine LeA.agg ?_ | refine LeA.tup ?_ | exact LeAs.nil | refine LeAs.cons ?_ ?_), rfl⟩
 | true =>
  have hsq := (formed_seq e1).1
  rw [e1] at k1 hr
  rw [if_pos rfl] at hr
  by_cases e2 : t.seq ≤ vatI s.heard t.node
  ·rw [show hasB s.heard t.node t.seq = true from decide_eq_true ⟨hsq, e2⟩, if_pos rfl] at hr
   subst hr
   refine NCall.call (k1) rfl rfl ?_
   refine NP.mk (by kernel_rfl) ?_
   apply NDr.rd [1]
   ·intro fH TH
    exact ⟨rfl, rfl⟩
   apply NDr.rd [1]
   ·intro fH TH
    exact ⟨rfl, rfl⟩
   apply NDr.rd [0]
   ·intro fH TH
    exact ⟨rfl, rfl⟩
   apply NDr.rd [0]
   ·intro fH TH
    exact ⟨rfl, rfl⟩
   apply NDr.rd [1]
   ·intro fH TH
    exact ⟨rfl, rfl⟩
   apply NDr.rd [1]
   ·intro fH TH
    exact ⟨rfl, rfl⟩
   apply NDr.pure
   ·refine NCall.call (k3) rfl rfl ?_
    exact ⟨rfl, rfl⟩
   apply NDr.pure
   ·refine ND.yes (by omega) ?_
    exact ⟨rfl, rfl⟩
   refine NP.mk (by kernel_rfl) ?_
   exact NRet.mk [] rfl ⟨by repeat (first | exact LeA.refl _ | exact LeA.nils _ | refine LeA.agg ?_ | refine LeA.tup ?_ | exact LeAs.nil | refine LeAs.cons ?_ ?_), rfl⟩
  ·rw [show hasB s.heard t.node t.seq = false from decide_eq_false fun h => e2 h.2, if_neg (by simp)] at hr
   cases e3 : ready s.heard t with
   | false =>
    rw [e3] at k4 hr
    rw [if_neg (by simp)] at hr
    subst hr
    refine NCall.call (k1) rfl rfl ?_
    refine NP.mk (by kernel_rfl) ?_
    apply NDr.rd [1]
    ·intro fH TH
     exact ⟨rfl, rfl⟩
    apply NDr.rd [1]
    ·intro fH TH
     exact ⟨rfl, rfl⟩
    apply NDr.rd [0]
    ·intro fH TH
     exact ⟨rfl, rfl⟩
    apply NDr.rd [0]
    ·intro fH TH
     exact ⟨rfl, rfl⟩
    apply NDr.rd [1]
    ·intro fH TH
     exact ⟨rfl, rfl⟩
    apply NDr.rd [1]
    ·intro fH TH
     exact ⟨rfl, rfl⟩
    apply NDr.pure
    ·refine NCall.call (k3) rfl rfl ?_
     exact ⟨rfl, rfl⟩
    apply NDr.pure
    ·refine ND.no (by omega) ?_
     exact ⟨rfl, rfl⟩
    refine NP.mk (by kernel_rfl) ?_
    refine NCall.call (k4) rfl rfl ?_
    exact NRet.mk [] rfl ⟨by repeat (first | exact LeA.refl _ | exact LeA.nils _ | refine LeA.agg ?_ | refine LeA.tup ?_ | exact LeAs.nil | refine LeAs.cons ?_ ?_), rfl⟩
   | true =>
    rw [e3] at k4 hr
    rw [if_pos rfl] at hr
    subst hr
    refine NCall.call (k1) rfl rfl ?_
    refine NP.mk (by kernel_rfl) ?_
    apply NDr.rd [1]
    ·intro fH TH
     exact ⟨rfl, rfl⟩
    apply NDr.rd [1]
    ·intro fH TH
     exact ⟨rfl, rfl⟩
    apply NDr.rd [0]
    ·intro fH TH
     exact ⟨rfl, rfl⟩
    apply NDr.rd [0]
    ·intro fH TH
     exact ⟨rfl, rfl⟩
    apply NDr.rd [1]
    ·intro fH TH
     exact ⟨rfl, rfl⟩
    apply NDr.rd [1]
    ·intro fH TH
     exact ⟨rfl, rfl⟩
    apply NDr.pure
    ·refine NCall.call (k3) rfl rfl ?_
     exact ⟨rfl, rfl⟩
    apply NDr.pure
    ·refine ND.no (by omega) ?_
     exact ⟨rfl, rfl⟩
    refine NP.mk (by kernel_rfl) ?_
    refine NCall.call (k4) rfl rfl ?_
    refine NP.mk (by kernel_rfl) ?_
    apply NDr.rd [0]
    ·intro fH TH
     exact ⟨rfl, rfl⟩
    apply NDr.rd [0]
    ·intro fH TH
     exact ⟨rfl, rfl⟩
    apply NDr.rd [1]
    ·intro fH TH
     exact ⟨rfl, rfl⟩
    apply NDr.pure
    ·refine NCall.call (k5) rfl rfl ?_
     exact ⟨rfl, rfl⟩
    apply NDr.rd [0]
    ·intro fH TH
     exact ⟨rfl, rfl⟩
    apply NDr.rd [0]
    ·intro fH TH
     exact ⟨rfl, rfl⟩
    apply NDr.rd [1]
    ·intro fH TH
     exact ⟨rfl, rfl⟩
    apply NDr.rd [1]
    ·intro fH TH
     exact ⟨rfl, rfl⟩
    apply NDr.rd [1]
    ·intro fH TH
     exact ⟨rfl, rfl⟩
    apply NDr.rd [1]
    ·intro fH TH
     exact ⟨rfl, rfl⟩
    apply NDr.rd [1]
    ·intro fH TH
     exact ⟨rfl, rfl⟩
    apply NDr.rd [1]
    ·intro fH TH
     exact ⟨rfl, rfl⟩
    apply NDr.pure
    ·refine NCall.call (k6) rfl rfl ?_
     exact ⟨rfl, rfl⟩
    refine NDr.w _ ?_
    apply NDr.efw [2]
    ·exact ⟨rfl, rfl⟩
    ·repeat (first | exact True.intro | refine ⟨by first | exact rfl | exact True.intro, ?_⟩)
    refine NDr.w _ ?_
    refine NP.mk (by kernel_rfl) ?_
    exact NRet.mk [] rfl ⟨.refl _, rfl⟩
theorem takeT_some {v : List Int} {l : List Txn} {t : Txn} (h : l.find? (ready v) = some t) : takeT v l = (t :: (takeT (next v t) (l.eraseP (ready v))).1, (takeT (next v t) (l.eraseP (ready v))).2) := by
 have hpl := (erase_perm h).length_eq
 rw [List.length_cons] at hpl
 unfold takeT
 rw [hpl, takeN_some h]
theorem takeT_no {v : List Int} {l : List Txn} (h : l.find? (ready v) = none) : takeT v l = ([], v) := takeT_none fun t ht => by
 have := List.find?_eq_none.1 h t ht
 simpa using this
theorem eraseP_filter' (q p : Txn → Bool) : ∀ l : List Txn, (l.filter q).eraseP p = (l.eraseP fun t => q t && p t).filter q
 | [] => rfl
 | t :: l => by
  have ih := eraseP_filter' q p l
  cases hq : q t with
  | true =>
   rw [List.filter_cons, if_pos hq, List.eraseP_cons, List.eraseP_cons, hq, Bool.true_and]
   cases hp : p t with
   | true => rfl
   | false => simp only [cond_false, ih, List.filter_cons, hq, if_true]
  | false =>
   rw [List.filter_cons, if_neg (by simp [hq]), List.eraseP_cons, hq, Bool.false_and]
   simp only [cond_false, ih, List.filter_cons, hq]
   rfl
theorem find_filter' (q p : Txn → Bool) : ∀ l : List Txn, (l.filter q).find? p = l.find? fun t => q t && p t
 | [] => rfl
 | t :: l => by
  have ih := find_filter' q p l
  cases hq : q t with
  | true =>
   rw [List.filter_cons, if_pos hq, List.find?_cons, List.find?_cons, hq, Bool.true_and, ih]
  | false =>
   rw [List.filter_cons, if_neg (by simp [hq]), List.find?_cons, hq, Bool.false_and, ih]
def canT (v : List Int) (t : Txn) : Bool := okT t && ready v t
theorem foldl_doT_heard (l : List Txn) (s : Store) : (l.foldl doT s).heard = nexts s.heard l := by rw [foldl_doT]
theorem all15_walk (s : Store) (l : List Txn) (hs : smS s) (hl : l.length ≤ 1000) (hx : ∀ t ∈ l, smTxn t) (hn : ∀ t ∈ l, t.effs.length ≤ 100) (hi : s.items.length ≤ 40000) : ACalls Tryz.prog Nm.ref15_All [storeA s, txnsA l] [] (.tup [storeA (allS s l).1, txnsA (allS s l).2]) [] := by
 refine ACalls_of tab (dr_snd tab mixed) Nm.ref15_All_h rfl (by kernel_rfl) (Nat.le_of_ble_eq_true rfl) rfl ?_
 obtain ⟨h1, h2, h3⟩ := hs
 refine NP.mk (by (simp; omega)) ?_
 refine NMk.own ?_
 refine NLoop.mk [(7, .agg 4)] [1, 2, 4, 6, 7, 8] (fun m vs H => ∃ (out : List Txn) (gs : List Bool) (i : Nat), i ≤ l.length ∧ m = (rem l gs).length * (l.length + 1) + (l.length - i) ∧ gs.length = l.length ∧ out.length + (rem l gs).length = l.length ∧
  (∀ t ∈ out, t ∈ l ∧ formed t = true) ∧
  (∀ (j : Nat) (x : Txn), j < i → l[j]? = some x → gs[j]? = some true ∨ canT (nexts s.heard out) x = false) ∧
  (takeT s.heard (l.filter okT)).1 = out ++ (takeT (nexts s.heard out) ((rem l gs).filter okT)).1 ∧
  H = [.row .box (.agg 2) [.agg (storeC (out.foldl doT s))], .row .box (.agg 2) [.agg [.nils, .nils]], .row .row .leaf (gs.map AV.bool), .row .vrow (.agg 4) (out.map txnA)] ∧ vs = [txnsA l, .ptr 0 0 0, .ptr 1 0 0, .own 2 0 l.length, .own 3 0 out.length, i64 i]) rfl ?_ ?_
 ·exact Canon.mk [0, 1, 2, 3] rfl ⟨_, [], List.replicate l.length false, 0, Nat.zero_le _, rfl, by simp, by simp [rem_rep], by simp, by simp, by rw [rem_rep]; rfl, by simp [storeC, ints, itemsA], by simp [txnsA, i64]⟩
 rintro m vs H ⟨out, gs, i, hi', rfl, hgl, hsum, hof, hj, e1, rfl, rfl⟩
 have hsm := done_sm out (s := s) ⟨h1, hi, h3⟩ (fun t ht => (hof t ht).2) (fun t ht => hx t (hof t ht).1) (by omega)
 have hhe := foldl_doT_heard out s
 by_cases hil : i < l.length
 ·have hs := hx _ (List.getElem_mem hil)
  have hig : i < gs.length := by omega
  have hli := List.getElem?_eq_getElem hil
  cases hg : gs[i] with
  | true =>
   refine ND.yes (by (simp only [zLm, zLa, zLr, zLc, zLn, zLt, zLd]; omega)) ?_
   refine NP.mk (by (simp only [zLm, zLa, zLr, zLc, zLn, zLt, zLd]; omega)) ?_
   refine NG.map0N (by omega) ?_
   refine NB.yes (by assumption) ?_
   refine NW.w ?_
   refine Canon.mk [0, 1, 2, 3] rfl ⟨_, ?_, out, gs, i + 1, by omega, rfl, hgl, hsum, hof, fun j x hji hx => ?_, e1, rfl, rfl⟩
   ·omega
   ·rcases Nat.lt_or_ge j i with h | h
    ·exact hj j x h hx
    ·rw [show j = i by omega, List.getElem?_eq_getElem hig, hg]; exact .inl rfl
  | false =>
   have hg' : gs[i]? = some false := by rw [List.getElem?_eq_getElem hig, hg]
   have k1 := do15_walk (out.foldl doT s) l[i] hsm hs (hn _ (List.getElem_mem hil))
   rw [hhe] at k1
   cases hc : canT (nexts s.heard out) l[i] with
   | true =>
    obtain ⟨f2, f3⟩ := rem_find hgl hli hj hg' hc
    have hc2 := hc
    unfold canT at hc2
    rw [Bool.and_eq_true] at hc2
    have hfo : formed l[i] = true := hc2.1
    rw [if_pos hfo, if_neg (by rw [ready_old hc2.2]; simp), if_pos hc2.2] at k1
    have hpl := (erase_perm f2).length_eq
    rw [f3, List.length_cons] at hpl
    have g2 : ((rem l gs).filter okT).find? (ready (nexts s.heard out)) = some l[i] := by rw [find_filter']; exact f2
    have eT := takeT_some g2
    rw [eraseP_filter', show (fun t => okT t && ready (nexts s.heard out) t) = canT (nexts s.heard out) from rfl, f3] at eT
    have hmul : ((rem l (gs.set i true)).length + 1) * (l.length + 1) = (rem l (gs.set i true)).length * (l.length + 1) + (l.length + 1) := Nat.succ_mul _ _
    rw [← hpl] at hmul
    have hfold : (out ++ [l[i]]).foldl doT s = doT (out.foldl doT s) l[i] := by rw [List.foldl_append]; rfl
    rw [← hfold] at k1
    obtain ⟨S2, hS2⟩ : ∃ S2, S2 = (out ++ [l[i]]).foldl doT s := ⟨_, rfl⟩
    rw [← hS2] at k1
    generalize hS1 : out.foldl doT s = S1 at *
    refine ND.yes (by (simp only [zLm, zLa, zLr, zLc, zLn, zLt, zLd]; omega)) ?_
    refine NP.mk (by (simp only [zLm, zLa, zLr, zLc, zLn, zLt, zLd]; omega)) ?_
    refine NG.map0N (by omega) ?_
    refine NB.no (by assumption) ?_
    refine NP.mk (by kernel_rfl) ?_
    apply NDr.rd [0]
    ·intro fH TH
     exact ⟨rfl, rfl⟩
    refine NDr.w _ ?_
    refine NDr.w _ ?_
    apply NDr.pure
    ·refine NP.mk (by omega) ?_
     refine NG.mapN (by omega) ?_
     exact ⟨rfl, rfl⟩
    refine NDr.w _ ?_
    apply NDr.pure
    ·refine NCall.call (k1) rfl rfl ?_
     exact ⟨rfl, rfl⟩
    refine NDr.w _ ?_
    refine NDr.w _ ?_
    refine NDr.w _ ?_
    apply NDr.efw []
    ·exact ⟨rfl, rfl⟩
    ·repeat (first | exact True.intro | refine ⟨by first | exact rfl | exact True.intro, ?_⟩)
    apply NDr.efw [4]
    ·exact ⟨rfl, rfl⟩
    ·repeat (first | exact True.intro | refine ⟨by first | exact rfl | exact True.intro, ?_⟩)
    refine NDr.w _ ?_
    refine NP.mk (by kernel_rfl) ?_
    refine ND.yes (by omega) ?_
    refine NP.mk (by (simp only [zLm, zLa, zLr, zLc, zLn, zLt, zLd]; omega)) ?_
    refine NG.map0N (by omega) ?_
    refine NP.mk (by omega) ?_
    refine NG.mapN (by omega) ?_
    refine NFz.own ?_
    refine NApp.endA (by simp) (by simp; omega) ?_
    refine NW.w ?_
    refine Canon.mk [0, 1, 2, 5] rfl ⟨_, ?_, out ++ [l[i]], gs.set i true, 0, Nat.zero_le _, rfl, by simpa using hgl, by simp; omega, fun t ht => ?_, by simp, by rw [e1, eT, nexts_snoc, List.append_assoc]; rfl, ?_, ?_⟩
    ·omega
    ·rcases List.mem_append.1 ht with h | h
     ·exact hof t h
     ·rw [List.mem_singleton.1 h]; exact ⟨List.getElem_mem hil, hfo⟩
    ·rw [← hS2, Nat.zero_add, Int.toNat_natCast, List.map_append, List.map_set]; rfl
    ·simp only [List.length_append, List.length_map]; rfl
   | false =>
    have hjn : ∀ (j : Nat) (x : Txn), j < i + 1 → l[j]? = some x → gs[j]? = some true ∨ canT (nexts s.heard out) x = false := fun j x hji hx => by
     rcases Nat.lt_or_ge j i with h | h
     ·exact hj j x h hx
     ·have e : j = i := by omega
      subst e
      rw [hli] at hx
      exact .inr (by rw [← Option.some.inj hx]; exact hc)
    unfold canT at hc
    cases hfo : formed l[i] with
    | false =>
     rw [if_neg (by rw [hfo]; simp)] at k1
     generalize hS1 : out.foldl doT s = S1 at *
     refine ND.yes (by (simp only [zLm, zLa, zLr, zLc, zLn, zLt, zLd]; omega)) ?_
     refine NP.mk (by (simp only [zLm, zLa, zLr, zLc, zLn, zLt, zLd]; omega)) ?_
     refine NG.map0N (by omega) ?_
     refine NB.no (by assumption) ?_
     refine NP.mk (by kernel_rfl) ?_
     apply NDr.rd [0]
     ·intro fH TH
      exact ⟨rfl, rfl⟩
     refine NDr.w _ ?_
     refine NDr.w _ ?_
     apply NDr.pure
     ·refine NP.mk (by omega) ?_
      refine NG.mapN (by omega) ?_
      exact ⟨rfl, rfl⟩
     refine NDr.w _ ?_
     apply NDr.pure
     ·refine NCall.call (k1) rfl rfl ?_
      exact ⟨rfl, rfl⟩
     refine NDr.w _ ?_
     refine NDr.w _ ?_
     refine NDr.w _ ?_
     apply NDr.efw []
     ·exact ⟨rfl, rfl⟩
     ·repeat (first | exact True.intro | refine ⟨by first | exact rfl | exact True.intro, ?_⟩)
     apply NDr.efw [4]
     ·exact ⟨rfl, rfl⟩
     ·repeat (first | exact True.intro | refine ⟨by first | exact rfl | exact True.intro, ?_⟩)
     refine NDr.w _ ?_
     refine NP.mk (by kernel_rfl) ?_
     refine ND.no (by omega) ?_
     refine NW.w ?_
     exact Canon.mk [0, 1, 2, 3] rfl ⟨_, by omega, out, gs, i + 1, by omega, rfl, hgl, hsum, hof, hjn, e1, by rw [hS1] <;> rfl, rfl⟩
    | true =>
     rw [if_pos hfo] at k1
     rw [show okT l[i] = true from hfo, Bool.true_and] at hc
     rw [hc] at k1
     cases hb : hasB (nexts s.heard out) l[i].node l[i].seq with
     | true =>
      rw [if_pos hb] at k1
      generalize hS1 : out.foldl doT s = S1 at *
      refine ND.yes (by (simp only [zLm, zLa, zLr, zLc, zLn, zLt, zLd]; omega)) ?_
      refine NP.mk (by (simp only [zLm, zLa, zLr, zLc, zLn, zLt, zLd]; omega)) ?_
      refine NG.map0N (by omega) ?_
      refine NB.no (by assumption) ?_
      refine NP.mk (by kernel_rfl) ?_
      apply NDr.rd [0]
      ·intro fH TH
       exact ⟨rfl, rfl⟩
      refine NDr.w _ ?_
      refine NDr.w _ ?_
      apply NDr.pure
      ·refine NP.mk (by omega) ?_
       refine NG.mapN (by omega) ?_
       exact ⟨rfl, rfl⟩
      refine NDr.w _ ?_
      apply NDr.pure
      ·refine NCall.call (k1) rfl rfl ?_
       exact ⟨rfl, rfl⟩
      refine NDr.w _ ?_
      refine NDr.w _ ?_
      refine NDr.w _ ?_
      apply NDr.efw []
      ·exact ⟨rfl, rfl⟩
      ·repeat (first | exact True.intro | refine ⟨by first | exact rfl | exact True.intro, ?_⟩)
      apply NDr.efw [4]
      ·exact ⟨rfl, rfl⟩
      ·repeat (first | exact True.intro | refine ⟨by first | exact rfl | exact True.intro, ?_⟩)
      refine NDr.w _ ?_
      refine NP.mk (by kernel_rfl) ?_
      refine ND.no (by omega) ?_
      refine NW.w ?_
      exact Canon.mk [0, 1, 2, 3] rfl ⟨_, by omega, out, gs, i + 1, by omega, rfl, hgl, hsum, hof, hjn, e1, by rw [hS1] <;> rfl, rfl⟩
     | false =>
      rw [if_neg (by rw [hb]; simp), if_neg (by simp)] at k1
      generalize hS1 : out.foldl doT s = S1 at *
      refine ND.yes (by (simp only [zLm, zLa, zLr, zLc, zLn, zLt, zLd]; omega)) ?_
      refine NP.mk (by (simp only [zLm, zLa, zLr, zLc, zLn, zLt, zLd]; omega)) ?_
      refine NG.map0N (by omega) ?_
      refine NB.no (by assumption) ?_
      refine NP.mk (by kernel_rfl) ?_
      apply NDr.rd [0]
      ·intro fH TH
       exact ⟨rfl, rfl⟩
      refine NDr.w _ ?_
      refine NDr.w _ ?_
      apply NDr.pure
      ·refine NP.mk (by omega) ?_
       refine NG.mapN (by omega) ?_
       exact ⟨rfl, rfl⟩
      refine NDr.w _ ?_
      apply NDr.pure
      ·refine NCall.call (k1) rfl rfl ?_
       exact ⟨rfl, rfl⟩
      refine NDr.w _ ?_
      refine NDr.w _ ?_
      refine NDr.w _ ?_
      apply NDr.efw []
      ·exact ⟨rfl, rfl⟩
      ·repeat (first | exact True.intro | refine ⟨by first | exact rfl | exact True.intro, ?_⟩)
      apply NDr.efw [4]
      ·exact ⟨rfl, rfl⟩
      ·repeat (first | exact True.intro | refine ⟨by first | exact rfl | exact True.intro, ?_⟩)
      refine NDr.w _ ?_
      refine NP.mk (by kernel_rfl) ?_
      refine ND.no (by omega) ?_
      refine NW.w ?_
      exact Canon.mk [0, 1, 2, 3] rfl ⟨_, by omega, out, gs, i + 1, by omega, rfl, hgl, hsum, hof, hjn, e1, by rw [hS1] <;> rfl, rfl⟩
 have hnone : ((rem l gs).filter okT).find? (ready (nexts s.heard out)) = none := by
  rw [find_filter']
  exact rem_none fun j x hx => hj j x (by have := (List.getElem?_eq_some_iff.1 hx).1; omega) hx
 rw [takeT_no hnone, List.append_nil] at e1
 have e2 : allS s l = (out.foldl doT s, out) := by unfold allS; rw [e1]
 rw [e2]
 simp only
 generalize hS1 : out.foldl doT s = S1 at *
 refine ND.no (by (simp only [zLm, zLa, zLr, zLc, zLn, zLt, zLd]; omega)) ?_
 exact NRet.mk [] rfl (NFrz.mk (out.map txnA) (by simp) (by rw [List.drop_zero, List.take_of_length_le (by simp)]) ⟨.refl _, rfl⟩)
end Go.Bv
namespace Go.Bv
set_option linter.unusedSimpArgs false
set_option linter.unusedVariables false
set_option maxHeartbeats 4000000
set_option maxRecDepth 20000
open Go Go.Proofs
theorem do_res (s : Store) (t : Txn) (hs : s.heard.length ≤ 60 ∧ s.items.length ≤ 60 ∧ ∀ x ∈ s.items, smItem x) (ht : smTxn t) (hn : t.effs.length ≤ 20) : ∃ (S : Store) (e : Int), smS S ∧
  (if formed t = true then if hasB s.heard t.node t.seq = true then AV.tup [storeA ⟨[], []⟩, i64 8] else if ready s.heard t = true then .tup [storeA (doT s t), i64 0] else .tup [storeA ⟨[], []⟩, i64 9] else .tup [storeA ⟨[], []⟩, i64 2]) = .tup [storeA S, i64 e] := by
 have h0 : smS ⟨[], []⟩ := ⟨by simp, by simp, by simp⟩
 by_cases h1 : formed t = true
 ·rw [if_pos h1]
  by_cases h2 : hasB s.heard t.node t.seq = true
  ·rw [if_pos h2]; exact ⟨_, 8, h0, rfl⟩
  ·rw [if_neg h2]
   by_cases h3 : ready s.heard t = true
   ·rw [if_pos h3]
    exact ⟨_, 0, done_sm [t] (s := s) ⟨by omega, by omega, hs.2.2⟩ (by simpa using h1) (by simpa using ht) (by simp), rfl⟩
   ·rw [if_neg h3]; exact ⟨_, 9, h0, rfl⟩
 ·rw [if_neg h1]; exact ⟨_, 2, h0, rfl⟩
theorem storeAllL_walk (s : Store) (l : List Txn) (t : Txn) (z : List (List UInt8)) (hs : okStore s) (hl : l.length ≤ reachBytes) (hx : ∀ x ∈ l, okTxn x) (ht : okTxn t) (hz : z.length ≤ reachBytes) (hzx : ∀ e ∈ z, e.length ≤ reachBytes) : ACalls Tryz.prog Nm.law15_StoreAll [storeA s, txnsA l, txnA t, strsA z] [] (.bool true) [] := by
 refine ACalls_of tab (dr_snd4 tab mixed) Nm.law15_StoreAll_h rfl (by kernel_rfl) (Nat.le_of_ble_eq_true rfl) rfl ?_
 have hs' := okS hs
 have hl' := reach_lt hl
 have hz' := reach_lt hz
 have s1 := short15_walk s hs'.1 hs'.2 hs.2.2
 have s2 := short13_walk l (by omega) hx
 have s3 := short13_walk [t] (by simp) (by simpa using ht)
 have s4 := short8_walk z (by omega) hzx
 cases h1 : shortS s with
 | false =>
  rw [h1] at s1
  refine NCall.call (awake15) rfl rfl ?_
  refine NCall.call (s1) rfl rfl ?_
  exact NRet.mk [] rfl ⟨.refl _, rfl⟩
 | true =>
 rw [h1] at s1
 obtain ⟨b1, b2, b3⟩ := shortS_sm h1
 cases h2 : shortT l with
 | false =>
  rw [h2] at s2
  refine NCall.call (awake15) rfl rfl ?_
  refine NCall.call (s1) rfl rfl ?_
  refine NCall.call (s2) rfl rfl ?_
  exact NRet.mk [] rfl ⟨.refl _, rfl⟩
 | true =>
 rw [h2] at s2
 obtain ⟨c1, c2⟩ := shortT_sm h2 hx
 have c3 := shortT_effs h2
 cases h3 : shortT [t] with
 | false =>
  rw [h3] at s3
  refine NCall.call (awake15) rfl rfl ?_
  refine NCall.call (s1) rfl rfl ?_
  refine NCall.call (s2) rfl rfl ?_
  refine NCall.call (s3) rfl rfl ?_
  exact NRet.mk [] rfl ⟨.refl _, rfl⟩
 | true =>
 rw [h3] at s3
 have d1 := short1_sm h3 ht
 have d2 := shortT_effs h3 t (by simp)
 cases h4 : (decide (z.length ≤ 60) && z.all fun e => decide (e.length ≤ 200)) with
 | false =>
  rw [h4] at s4
  refine NCall.call (awake15) rfl rfl ?_
  refine NCall.call (s1) rfl rfl ?_
  refine NCall.call (s2) rfl rfl ?_
  refine NCall.call (s3) rfl rfl ?_
  refine NCall.call (s4) rfl rfl ?_
  exact NRet.mk [] rfl ⟨.refl _, rfl⟩
 | true =>
 rw [h4] at s4
 rw [Bool.and_eq_true] at h4
 have hz60 := of_decide_eq_true h4.1
 have hsm : smS s := ⟨by omega, by omega, b3⟩
 have k1 := copy9_walk s.items (by omega)
 have k2 := copy13_walk l (by omega) c2
 have k3 := storeDo_walk s t hsm d1 (by omega)
 have k4 := do15_walk s t hsm d1 (by omega)
 obtain ⟨S, e, m1, hr⟩ := do_res s t ⟨b1, b2, b3⟩ d1 d2
 rw [hr] at k3 k4
 have k5 := same15_self S m1
 have k6 := sound_walk s hsm
 have k7 := sound15_walk s hsm
 have k8 := storeAll_walk s l hsm (by omega) c2 (by omega)
 have k9 := all15_walk s l hsm (by omega) c2 (fun t ht => by have := c3 t ht; omega) (by omega)
 have m2 := allS_sm (s := s) (l := l) ⟨by omega, by omega, b3⟩ c2 (by omega)
 have hdl := done_len s l
 have hdx : ∀ t ∈ (allS s l).2, smTxn t := fun t ht => c2 t (List.mem_filter.1 (takeT_mem ht)).1
 have k10 := same15_self _ m2
 have k11 : ACalls Tryz.prog Nm.ref13_SameAll [txnsA (allS s l).2, txnsA (allS s l).2] [] (.bool true) [] := by
  have := sameAll_walk (allS s l).2 (allS s l).2 (by omega) hdx
  rwa [decide_eq_true rfl] at this
 have k12 := storeUnderS_walk s z hsm (by omega)
 have k13 := under9_walk s.items z (by omega) (by omega) b3
 have hul : (underS s fun k => z.any (begins k)).items.length ≤ 60 := Nat.le_trans (List.length_filter_le _ _) b2
 have k14 := same15_self (underS s fun k => z.any (begins k)) ⟨Nat.le_trans b1 (by decide), by omega, fun x hx => b3 x (List.mem_filter.1 hx).1⟩
 have k15 := same15_self s hsm
 have k16 : ACalls Tryz.prog Nm.ref13_SameAll [txnsA l, txnsA l] [] (.bool true) [] := by
  have := sameAll_walk l l (by omega) c2
  rwa [decide_eq_true rfl] at this
 generalize (allS s l).1 = a at *
 generalize (allS s l).2 = x at *
 unfold underS at k12 k14
 generalize (underI s.items fun k => z.any (begins k)) = U at *
 cases hb : soundS s with
 | true =>
  rw [hb] at k6 k7
  refine NCall.call (awake15) rfl rfl ?_
  refine NCall.call (s1) rfl rfl ?_
  refine NCall.call (s2) rfl rfl ?_
  refine NCall.call (s3) rfl rfl ?_
  refine NCall.call (s4) rfl rfl ?_
  refine NP.mk (by kernel_rfl) ?_
  apply NDr.efw []
  ·exact ⟨rfl, rfl⟩
  ·repeat (first | exact True.intro | refine ⟨by first | exact rfl | exact True.intro, ?_⟩)
  apply NDr.rd [0]
  ·intro fH TH
   exact ⟨rfl, rfl⟩
  apply NDr.rd [0]
  ·intro fH TH
   exact ⟨rfl, rfl⟩
  apply NDr.efw [2]
  ·refine NFz.own ?_
   refine NApp.endA rfl (by simp; omega) ?_
   exact ⟨rfl, rfl⟩
  ·repeat (first | exact True.intro | refine ⟨by first | exact rfl | exact True.intro, ?_⟩)
  apply NDr.rd [0]
  ·intro fH TH
   exact ⟨rfl, rfl⟩
  apply NDr.rd [0]
  ·intro fH TH
   exact ⟨rfl, rfl⟩
  apply NDr.pure
  ·refine NCall.call (k1) rfl rfl ?_
   exact ⟨rfl, rfl⟩
  apply NDr.any
  ·intro H'
   exact ⟨rfl, rfl⟩
  apply NDr.efw []
  ·exact ⟨rfl, rfl⟩
  ·repeat (first | exact True.intro | refine ⟨by first | exact rfl | exact True.intro, ?_⟩)
  apply NDr.efw [4]
  ·exact ⟨rfl, rfl⟩
  ·repeat (first | exact True.intro | refine ⟨by first | exact rfl | exact True.intro, ?_⟩)
  refine NP.mk (by kernel_rfl) ?_
  refine NCall.call (k2) rfl rfl ?_
  refine NCall.eq (by simp only [List.length_map] <;> exact rfl) ?_
  refine NCall.roA [3] ?_
  rw [(tlm _ _)]
  refine NCall.eq (by simp only [List.length_map] <;> exact rfl) ?_
  refine NCall.call (k3) rfl rfl ?_
  refine NCall.call (k4) rfl rfl ?_
  refine NP.mk (by kernel_rfl) ?_
  refine NDr.w _ ?_
  refine NDr.w _ ?_
  apply NDr.pure
  ·refine ND.yes (by omega) ?_
   exact ⟨rfl, rfl⟩
  refine NDr.w _ ?_
  apply NDr.rd [5]
  ·intro fH TH
   exact ⟨rfl, rfl⟩
  apply NDr.rd [6]
  ·intro fH TH
   exact ⟨rfl, rfl⟩
  apply NDr.pure
  ·refine NCall.call (k5) rfl rfl ?_
   exact ⟨rfl, rfl⟩
  refine NDr.w _ ?_
  refine NDr.w _ ?_
  refine NDr.w _ ?_
  apply NDr.rd [4]
  ·intro fH TH
   exact ⟨rfl, rfl⟩
  apply NDr.efw [3]
  ·refine NCall.eq (by simp only [List.length_map] <;> exact rfl) ?_
   refine NCall.roA [3] ?_
   rw [(tlm _ _)]
   refine NCall.call (k6) rfl rfl ?_
   exact ⟨rfl, rfl⟩
  ·repeat (first | exact True.intro | refine ⟨by first | exact rfl | exact True.intro, ?_⟩)
  apply NDr.rd [0]
  ·intro fH TH
   exact ⟨rfl, rfl⟩
  apply NDr.pure
  ·refine NCall.call (k7) rfl rfl ?_
   exact ⟨rfl, rfl⟩
  apply NDr.pure
  ·refine ND.yes (by simp) ?_
   exact ⟨rfl, rfl⟩
  refine NDr.w _ ?_
  refine NP.mk (by kernel_rfl) ?_
  refine NCall.eq (by simp only [List.length_map] <;> exact rfl) ?_
  refine NCall.roA [3] ?_
  rw [(tlm _ _)]
  refine NCall.call (k8) rfl rfl ?_
  refine NCall.call (k9) rfl rfl ?_
  refine NCall.eq (by simp only [List.length_map] <;> exact rfl) ?_
  refine NCall.roA [3] ?_
  rw [(tlm _ _)]
  refine NCall.call (k12) rfl rfl ?_
  refine NP.mk (by kernel_rfl) ?_
  apply NDr.rd [5]
  ·intro fH TH
   exact ⟨rfl, rfl⟩
  apply NDr.rd [6]
  ·intro fH TH
   exact ⟨rfl, rfl⟩
  apply NDr.pure
  ·refine NCall.call (k10) rfl rfl ?_
   exact ⟨rfl, rfl⟩
  refine NDr.w _ ?_
  refine NDr.w _ ?_
  refine NDr.w _ ?_
  apply NDr.pure
  ·refine NCall.call (k11) rfl rfl ?_
   exact ⟨rfl, rfl⟩
  refine NDr.w _ ?_
  refine NDr.w _ ?_
  apply NDr.rd [7]
  ·intro fH TH
   exact ⟨rfl, rfl⟩
  apply NDr.rd [0]
  ·intro fH TH
   exact ⟨rfl, rfl⟩
  apply NDr.rd [0]
  ·intro fH TH
   exact ⟨rfl, rfl⟩
  apply NDr.rd [0]
  ·intro fH TH
   exact ⟨rfl, rfl⟩
  apply NDr.rd [0]
  ·intro fH TH
   exact ⟨rfl, rfl⟩
  refine NDr.w _ ?_
  apply NDr.pure
  ·refine NCall.call (k13) rfl rfl ?_
   exact ⟨rfl, rfl⟩
  refine NDr.w _ ?_
  apply NDr.pure
  ·refine NCall.call (k14) rfl rfl ?_
   exact ⟨rfl, rfl⟩
  refine NDr.w _ ?_
  refine NDr.w _ ?_
  apply NDr.rd [4]
  ·intro fH TH
   exact ⟨rfl, rfl⟩
  apply NDr.rd [0]
  ·intro fH TH
   exact ⟨rfl, rfl⟩
  apply NDr.efw [3]
  ·refine NCall.eq (by simp only [List.length_map] <;> exact rfl) ?_
   refine NCall.roA [3] ?_
   rw [(tlm _ _)]
   refine NCall.eq (by simp only [List.length_map] <;> exact rfl) ?_
   refine NCall.call (k15) rfl rfl ?_
   exact ⟨rfl, rfl⟩
  ·repeat (first | exact True.intro | refine ⟨by first | exact rfl | exact True.intro, ?_⟩)
  refine NDr.w _ ?_
  refine NDr.w _ ?_
  refine NDr.w _ ?_
  refine NDr.w _ ?_
  apply NDr.pure
  ·refine NCall.call (k16) rfl rfl ?_
   exact ⟨rfl, rfl⟩
  refine NDr.w _ ?_
  refine NDr.w _ ?_
  refine NP.mk (by kernel_rfl) ?_
  exact NRet.mk [] rfl ⟨.refl _, rfl⟩
 | false =>
  rw [hb] at k6 k7
  refine NCall.call (awake15) rfl rfl ?_
  refine NCall.call (s1) rfl rfl ?_
  refine NCall.call (s2) rfl rfl ?_
  refine NCall.call (s3) rfl rfl ?_
  refine NCall.call (s4) rfl rfl ?_
  refine NP.mk (by kernel_rfl) ?_
  apply NDr.efw []
  ·exact ⟨rfl, rfl⟩
  ·repeat (first | exact True.intro | refine ⟨by first | exact rfl | exact True.intro, ?_⟩)
  apply NDr.rd [0]
  ·intro fH TH
   exact ⟨rfl, rfl⟩
  apply NDr.rd [0]
  ·intro fH TH
   exact ⟨rfl, rfl⟩
  apply NDr.efw [2]
  ·refine NFz.own ?_
   refine NApp.endA rfl (by simp; omega) ?_
   exact ⟨rfl, rfl⟩
  ·repeat (first | exact True.intro | refine ⟨by first | exact rfl | exact True.intro, ?_⟩)
  apply NDr.rd [0]
  ·intro fH TH
   exact ⟨rfl, rfl⟩
  apply NDr.rd [0]
  ·intro fH TH
   exact ⟨rfl, rfl⟩
  apply NDr.pure
  ·refine NCall.call (k1) rfl rfl ?_
   exact ⟨rfl, rfl⟩
  apply NDr.any
  ·intro H'
   exact ⟨rfl, rfl⟩
  apply NDr.efw []
  ·exact ⟨rfl, rfl⟩
  ·repeat (first | exact True.intro | refine ⟨by first | exact rfl | exact True.intro, ?_⟩)
  apply NDr.efw [4]
  ·exact ⟨rfl, rfl⟩
  ·repeat (first | exact True.intro | refine ⟨by first | exact rfl | exact True.intro, ?_⟩)
  refine NP.mk (by kernel_rfl) ?_
  refine NCall.call (k2) rfl rfl ?_
  refine NCall.eq (by simp only [List.length_map] <;> exact rfl) ?_
  refine NCall.roA [3] ?_
  rw [(tlm _ _)]
  refine NCall.eq (by simp only [List.length_map] <;> exact rfl) ?_
  refine NCall.call (k3) rfl rfl ?_
  refine NCall.call (k4) rfl rfl ?_
  refine NP.mk (by kernel_rfl) ?_
  refine NDr.w _ ?_
  refine NDr.w _ ?_
  apply NDr.pure
  ·refine ND.yes (by omega) ?_
   exact ⟨rfl, rfl⟩
  refine NDr.w _ ?_
  apply NDr.rd [5]
  ·intro fH TH
   exact ⟨rfl, rfl⟩
  apply NDr.rd [6]
  ·intro fH TH
   exact ⟨rfl, rfl⟩
  apply NDr.pure
  ·refine NCall.call (k5) rfl rfl ?_
   exact ⟨rfl, rfl⟩
  refine NDr.w _ ?_
  refine NDr.w _ ?_
  refine NDr.w _ ?_
  apply NDr.rd [4]
  ·intro fH TH
   exact ⟨rfl, rfl⟩
  apply NDr.efw [3]
  ·refine NCall.eq (by simp only [List.length_map] <;> exact rfl) ?_
   refine NCall.roA [3] ?_
   rw [(tlm _ _)]
   refine NCall.call (k6) rfl rfl ?_
   exact ⟨rfl, rfl⟩
  ·repeat (first | exact True.intro | refine ⟨by first | exact rfl | exact True.intro, ?_⟩)
  apply NDr.rd [0]
  ·intro fH TH
   exact ⟨rfl, rfl⟩
  apply NDr.pure
  ·refine NCall.call (k7) rfl rfl ?_
   exact ⟨rfl, rfl⟩
  apply NDr.pure
  ·refine ND.yes (by simp) ?_
   exact ⟨rfl, rfl⟩
  refine NDr.w _ ?_
  refine NP.mk (by kernel_rfl) ?_
  refine NCall.eq (by simp only [List.length_map] <;> exact rfl) ?_
  refine NCall.roA [3] ?_
  rw [(tlm _ _)]
  refine NCall.call (k8) rfl rfl ?_
  refine NCall.call (k9) rfl rfl ?_
  refine NCall.eq (by simp only [List.length_map] <;> exact rfl) ?_
  refine NCall.roA [3] ?_
  rw [(tlm _ _)]
  refine NCall.call (k12) rfl rfl ?_
  refine NP.mk (by kernel_rfl) ?_
  apply NDr.rd [5]
  ·intro fH TH
   exact ⟨rfl, rfl⟩
  apply NDr.rd [6]
  ·intro fH TH
   exact ⟨rfl, rfl⟩
  apply NDr.pure
  ·refine NCall.call (k10) rfl rfl ?_
   exact ⟨rfl, rfl⟩
  refine NDr.w _ ?_
  refine NDr.w _ ?_
  refine NDr.w _ ?_
  apply NDr.pure
  ·refine NCall.call (k11) rfl rfl ?_
   exact ⟨rfl, rfl⟩
  refine NDr.w _ ?_
  refine NDr.w _ ?_
  apply NDr.rd [7]
  ·intro fH TH
   exact ⟨rfl, rfl⟩
  apply NDr.rd [0]
  ·intro fH TH
   exact ⟨rfl, rfl⟩
  apply NDr.rd [0]
  ·intro fH TH
   exact ⟨rfl, rfl⟩
  apply NDr.rd [0]
  ·intro fH TH
   exact ⟨rfl, rfl⟩
  apply NDr.rd [0]
  ·intro fH TH
   exact ⟨rfl, rfl⟩
  refine NDr.w _ ?_
  apply NDr.pure
  ·refine NCall.call (k13) rfl rfl ?_
   exact ⟨rfl, rfl⟩
  refine NDr.w _ ?_
  apply NDr.pure
  ·refine NCall.call (k14) rfl rfl ?_
   exact ⟨rfl, rfl⟩
  refine NDr.w _ ?_
  refine NDr.w _ ?_
  apply NDr.rd [4]
  ·intro fH TH
   exact ⟨rfl, rfl⟩
  apply NDr.rd [0]
  ·intro fH TH
   exact ⟨rfl, rfl⟩
  apply NDr.efw [3]
  ·refine NCall.eq (by simp only [List.length_map] <;> exact rfl) ?_
   refine NCall.roA [3] ?_
   rw [(tlm _ _)]
   refine NCall.eq (by simp only [List.length_map] <;> exact rfl) ?_
   refine NCall.call (k15) rfl rfl ?_
   exact ⟨rfl, rfl⟩
  ·repeat (first | exact True.intro | refine ⟨by first | exact rfl | exact True.intro, ?_⟩)
  refine NDr.w _ ?_
  refine NDr.w _ ?_
  refine NDr.w _ ?_
  refine NDr.w _ ?_
  apply NDr.pure
  ·refine NCall.call (k16) rfl rfl ?_
   exact ⟨rfl, rfl⟩
  refine NDr.w _ ?_
  refine NDr.w _ ?_
  refine NP.mk (by kernel_rfl) ?_
  exact NRet.mk [] rfl ⟨.refl _, rfl⟩
end Go.Bv
namespace Go.Bv
open Go Go.Proofs
theorem ty_Vec {n : Nat} {xs : List AV} (h : TyC Tryz.prog n 24 xs) : ∃ a : List (Int), xs = [.list (.leaf) (a.map i64)] ∧ (a.length ≤ reachBytes ∧ ∀ y ∈ a, okInt y) := by
 obtain ⟨l, rfl, hl, hx⟩ := ty_slice h Tryz.underlying24
 have hs : shOf Tryz.prog 3 = .leaf := by exact shOf_int Tryz.underlying3
 have hb : 1 ≤ Tryz.prog.bytesOf 3 := Nat.le_of_ble_eq_true (by kernel_rfl)
 rw [hs] at hx ⊢
 have : ∀ x ∈ l, ∃ a : Int, x = i64 a ∧ okInt a := by
  intro x hxl
  obtain ⟨ys, hy, rfl⟩ := hx x hxl
  obtain ⟨a, e1, g1⟩ := ty_i64 hy Tryz.underlying3
  exact ⟨a, by rw [e1]; rfl, g1⟩
 obtain ⟨a, rfl, ha⟩ := list_of' this
 exact ⟨a, rfl, Nat.le_trans (by simpa using Nat.le_mul_of_pos_right (a.map i64).length hb) hl, ha⟩
theorem ty_Dot {n : Nat} {xs : List AV} (h : TyC Tryz.prog n 64 xs) : ∃ a : Dot, xs = dotC a ∧ okDot a := by
 obtain ⟨hl, hf⟩ := ty_struct h Tryz.underlying64
 have c3 : Tryz.prog.cellsOf 3 = 1 := by kernel_rfl
 have c64 : Tryz.prog.cellsOf 64 = 3 := by kernel_rfl
 rw [c64] at hl
 have h0 := hf _ (List.mem_cons_self ..)
 dsimp only at h0
 rw [c3] at h0
 obtain ⟨a0, e0, g0⟩ := ty_i64 h0 Tryz.underlying3
 have e0 := drop_more e0 rfl
 have h1 := hf _ (List.mem_cons_of_mem _ (List.mem_cons_self ..))
 dsimp only at h1
 rw [c3] at h1
 obtain ⟨a1, e1, g1⟩ := ty_i64 h1 Tryz.underlying3
 have e1 := drop_more e1 rfl
 have h2 := hf _ (List.mem_cons_of_mem _ (List.mem_cons_of_mem _ (List.mem_cons_self ..)))
 dsimp only at h2
 rw [c3] at h2
 obtain ⟨a2, e2, g2⟩ := ty_i64 h2 Tryz.underlying3
 have e2 := drop_more e2 rfl
 rw [drop_all' hl] at e2
 rw [e2] at e1
 rw [e1] at e0
 exact ⟨⟨a0, a1, a2⟩, by rw [List.drop_zero] at e0; rw [e0]; rfl, g0, g1, g2⟩
theorem ty_LDot {n : Nat} {xs : List AV} (h : TyC Tryz.prog n 60 xs) : ∃ a : List (Dot), xs = [.list (.agg 3) (a.map dotA)] ∧ (a.length ≤ reachBytes ∧ ∀ y ∈ a, okDot y) := by
 obtain ⟨l, rfl, hl, hx⟩ := ty_slice h Tryz.underlying60
 have hs : shOf Tryz.prog 64 = .agg 3 := by rw [shOf_struct Tryz.underlying64, show Tryz.prog.cellsOf 64 = 3 by kernel_rfl]
 have hb : 1 ≤ Tryz.prog.bytesOf 64 := Nat.le_of_ble_eq_true (by kernel_rfl)
 rw [hs] at hx ⊢
 have : ∀ x ∈ l, ∃ a : Dot, x = dotA a ∧ okDot a := by
  intro x hxl
  obtain ⟨ys, hy, rfl⟩ := hx x hxl
  obtain ⟨a, e1, g1⟩ := ty_Dot hy
  exact ⟨a, by rw [e1]; rfl, g1⟩
 obtain ⟨a, rfl, ha⟩ := list_of' this
 exact ⟨a, rfl, Nat.le_trans (by simpa using Nat.le_mul_of_pos_right (a.map dotA).length hb) hl, ha⟩
theorem ty_Eff {n : Nat} {xs : List AV} (h : TyC Tryz.prog n 62 xs) : ∃ a : Eff, xs = effC a ∧ okEff a := by
 obtain ⟨hl, hf⟩ := ty_struct h Tryz.underlying62
 have c3 : Tryz.prog.cellsOf 3 = 1 := by kernel_rfl
 have c9 : Tryz.prog.cellsOf 9 = 1 := by kernel_rfl
 have c2 : Tryz.prog.cellsOf 2 = 1 := by kernel_rfl
 have c60 : Tryz.prog.cellsOf 60 = 1 := by kernel_rfl
 have c62 : Tryz.prog.cellsOf 62 = 7 := by kernel_rfl
 rw [c62] at hl
 have h0 := hf _ (List.mem_cons_self ..)
 dsimp only at h0
 rw [c3] at h0
 obtain ⟨a0, e0, g0⟩ := ty_i64 h0 Tryz.underlying3
 have e0 := drop_more e0 rfl
 have h1 := hf _ (List.mem_cons_of_mem _ (List.mem_cons_self ..))
 dsimp only at h1
 rw [c9] at h1
 obtain ⟨a1, e1, g1⟩ := ty_str h1 Tryz.underlying9
 have e1 := drop_more e1 rfl
 have h2 := hf _ (List.mem_cons_of_mem _ (List.mem_cons_of_mem _ (List.mem_cons_self ..)))
 dsimp only at h2
 rw [c9] at h2
 obtain ⟨a2, e2, g2⟩ := ty_str h2 Tryz.underlying9
 have e2 := drop_more e2 rfl
 have h3 := hf _ (List.mem_cons_of_mem _ (List.mem_cons_of_mem _ (List.mem_cons_of_mem _ (List.mem_cons_self ..))))
 dsimp only at h3
 rw [c3] at h3
 obtain ⟨a3, e3, g3⟩ := ty_i64 h3 Tryz.underlying3
 have e3 := drop_more e3 rfl
 have h4 := hf _ (List.mem_cons_of_mem _ (List.mem_cons_of_mem _ (List.mem_cons_of_mem _ (List.mem_cons_of_mem _ (List.mem_cons_self ..)))))
 dsimp only at h4
 rw [c9] at h4
 obtain ⟨a4, e4, g4⟩ := ty_str h4 Tryz.underlying9
 have e4 := drop_more e4 rfl
 have h5 := hf _ (List.mem_cons_of_mem _ (List.mem_cons_of_mem _ (List.mem_cons_of_mem _ (List.mem_cons_of_mem _ (List.mem_cons_of_mem _ (List.mem_cons_self ..))))))
 dsimp only at h5
 rw [c2] at h5
 obtain ⟨a5, e5, g5⟩ := ty_i64 h5 Tryz.underlying2
 have e5 := drop_more e5 rfl
 have h6 := hf _ (List.mem_cons_of_mem _ (List.mem_cons_of_mem _ (List.mem_cons_of_mem _ (List.mem_cons_of_mem _ (List.mem_cons_of_mem _ (List.mem_cons_of_mem _ (List.mem_cons_self ..)))))))
 dsimp only at h6
 rw [c60] at h6
 obtain ⟨a6, e6, g6⟩ := ty_LDot h6
 have e6 := drop_more e6 rfl
 rw [drop_all' hl] at e6
 rw [e6] at e5
 rw [e5] at e4
 rw [e4] at e3
 rw [e3] at e2
 rw [e2] at e1
 rw [e1] at e0
 exact ⟨⟨a0, a1, a2, a3, a4, a5, a6⟩, by rw [List.drop_zero] at e0; rw [e0]; rfl, g0, g1, g2, g3, g4, g5, g6⟩
theorem ty_LEff {n : Nat} {xs : List AV} (h : TyC Tryz.prog n 38 xs) : ∃ a : List (Eff), xs = [.list (.agg 7) (a.map effA)] ∧ (a.length ≤ reachBytes ∧ ∀ y ∈ a, okEff y) := by
 obtain ⟨l, rfl, hl, hx⟩ := ty_slice h Tryz.underlying38
 have hs : shOf Tryz.prog 62 = .agg 7 := by rw [shOf_struct Tryz.underlying62, show Tryz.prog.cellsOf 62 = 7 by kernel_rfl]
 have hb : 1 ≤ Tryz.prog.bytesOf 62 := Nat.le_of_ble_eq_true (by kernel_rfl)
 rw [hs] at hx ⊢
 have : ∀ x ∈ l, ∃ a : Eff, x = effA a ∧ okEff a := by
  intro x hxl
  obtain ⟨ys, hy, rfl⟩ := hx x hxl
  obtain ⟨a, e1, g1⟩ := ty_Eff hy
  exact ⟨a, by rw [e1]; rfl, g1⟩
 obtain ⟨a, rfl, ha⟩ := list_of' this
 exact ⟨a, rfl, Nat.le_trans (by simpa using Nat.le_mul_of_pos_right (a.map effA).length hb) hl, ha⟩
theorem ty_Txn {n : Nat} {xs : List AV} (h : TyC Tryz.prog n 40 xs) : ∃ a : Txn, xs = txnC a ∧ okTxn a := by
 obtain ⟨hl, hf⟩ := ty_struct h Tryz.underlying40
 have c3 : Tryz.prog.cellsOf 3 = 1 := by kernel_rfl
 have c24 : Tryz.prog.cellsOf 24 = 1 := by kernel_rfl
 have c38 : Tryz.prog.cellsOf 38 = 1 := by kernel_rfl
 have c40 : Tryz.prog.cellsOf 40 = 4 := by kernel_rfl
 rw [c40] at hl
 have h0 := hf _ (List.mem_cons_self ..)
 dsimp only at h0
 rw [c3] at h0
 obtain ⟨a0, e0, g0⟩ := ty_i64 h0 Tryz.underlying3
 have e0 := drop_more e0 rfl
 have h1 := hf _ (List.mem_cons_of_mem _ (List.mem_cons_self ..))
 dsimp only at h1
 rw [c3] at h1
 obtain ⟨a1, e1, g1⟩ := ty_i64 h1 Tryz.underlying3
 have e1 := drop_more e1 rfl
 have h2 := hf _ (List.mem_cons_of_mem _ (List.mem_cons_of_mem _ (List.mem_cons_self ..)))
 dsimp only at h2
 rw [c24] at h2
 obtain ⟨a2, e2, g2⟩ := ty_Vec h2
 have e2 := drop_more e2 rfl
 have h3 := hf _ (List.mem_cons_of_mem _ (List.mem_cons_of_mem _ (List.mem_cons_of_mem _ (List.mem_cons_self ..))))
 dsimp only at h3
 rw [c38] at h3
 obtain ⟨a3, e3, g3⟩ := ty_LEff h3
 have e3 := drop_more e3 rfl
 rw [drop_all' hl] at e3
 rw [e3] at e2
 rw [e2] at e1
 rw [e1] at e0
 exact ⟨⟨a0, a1, a2, a3⟩, by rw [List.drop_zero] at e0; rw [e0]; rfl, g0, g1, g2, g3⟩
theorem ty_LTxn {n : Nat} {xs : List AV} (h : TyC Tryz.prog n 22 xs) : ∃ a : List (Txn), xs = [.list (.agg 4) (a.map txnA)] ∧ (a.length ≤ reachBytes ∧ ∀ y ∈ a, okTxn y) := by
 obtain ⟨l, rfl, hl, hx⟩ := ty_slice h Tryz.underlying22
 have hs : shOf Tryz.prog 40 = .agg 4 := by rw [shOf_struct Tryz.underlying40, show Tryz.prog.cellsOf 40 = 4 by kernel_rfl]
 have hb : 1 ≤ Tryz.prog.bytesOf 40 := Nat.le_of_ble_eq_true (by kernel_rfl)
 rw [hs] at hx ⊢
 have : ∀ x ∈ l, ∃ a : Txn, x = txnA a ∧ okTxn a := by
  intro x hxl
  obtain ⟨ys, hy, rfl⟩ := hx x hxl
  obtain ⟨a, e1, g1⟩ := ty_Txn hy
  exact ⟨a, by rw [e1]; rfl, g1⟩
 obtain ⟨a, rfl, ha⟩ := list_of' this
 exact ⟨a, rfl, Nat.le_trans (by simpa using Nat.le_mul_of_pos_right (a.map txnA).length hb) hl, ha⟩
theorem ty_Item {n : Nat} {xs : List AV} (h : TyC Tryz.prog n 66 xs) : ∃ a : Item, xs = itemC a ∧ okItem a := by
 obtain ⟨hl, hf⟩ := ty_struct h Tryz.underlying66
 have c9 : Tryz.prog.cellsOf 9 = 1 := by kernel_rfl
 have c3 : Tryz.prog.cellsOf 3 = 1 := by kernel_rfl
 have c2 : Tryz.prog.cellsOf 2 = 1 := by kernel_rfl
 have c64 : Tryz.prog.cellsOf 64 = 3 := by kernel_rfl
 have c66 : Tryz.prog.cellsOf 66 = 8 := by kernel_rfl
 rw [c66] at hl
 have h0 := hf _ (List.mem_cons_self ..)
 dsimp only at h0
 rw [c9] at h0
 obtain ⟨a0, e0, g0⟩ := ty_str h0 Tryz.underlying9
 have e0 := drop_more e0 rfl
 have h1 := hf _ (List.mem_cons_of_mem _ (List.mem_cons_self ..))
 dsimp only at h1
 rw [c9] at h1
 obtain ⟨a1, e1, g1⟩ := ty_str h1 Tryz.underlying9
 have e1 := drop_more e1 rfl
 have h2 := hf _ (List.mem_cons_of_mem _ (List.mem_cons_of_mem _ (List.mem_cons_self ..)))
 dsimp only at h2
 rw [c3] at h2
 obtain ⟨a2, e2, g2⟩ := ty_i64 h2 Tryz.underlying3
 have e2 := drop_more e2 rfl
 have h3 := hf _ (List.mem_cons_of_mem _ (List.mem_cons_of_mem _ (List.mem_cons_of_mem _ (List.mem_cons_self ..))))
 dsimp only at h3
 rw [c9] at h3
 obtain ⟨a3, e3, g3⟩ := ty_str h3 Tryz.underlying9
 have e3 := drop_more e3 rfl
 have h4 := hf _ (List.mem_cons_of_mem _ (List.mem_cons_of_mem _ (List.mem_cons_of_mem _ (List.mem_cons_of_mem _ (List.mem_cons_self ..)))))
 dsimp only at h4
 rw [c2] at h4
 obtain ⟨a4, e4, g4⟩ := ty_i64 h4 Tryz.underlying2
 have e4 := drop_more e4 rfl
 have h5 := hf _ (List.mem_cons_of_mem _ (List.mem_cons_of_mem _ (List.mem_cons_of_mem _ (List.mem_cons_of_mem _ (List.mem_cons_of_mem _ (List.mem_cons_self ..))))))
 dsimp only at h5
 rw [c64] at h5
 obtain ⟨a5, e5, g5⟩ := ty_Dot h5
 have e5 := drop_more e5 rfl
 rw [drop_all' hl] at e5
 rw [e5] at e4
 rw [e4] at e3
 rw [e3] at e2
 rw [e2] at e1
 rw [e1] at e0
 exact ⟨⟨a0, a1, a2, a3, a4, a5⟩, by rw [List.drop_zero] at e0; rw [e0]; rfl, g0, g1, g2, g3, g4, g5⟩
theorem ty_LItem {n : Nat} {xs : List AV} (h : TyC Tryz.prog n 29 xs) : ∃ a : List (Item), xs = [.list (.agg 8) (a.map itemA)] ∧ (a.length ≤ reachBytes ∧ ∀ y ∈ a, okItem y) := by
 obtain ⟨l, rfl, hl, hx⟩ := ty_slice h Tryz.underlying29
 have hs : shOf Tryz.prog 66 = .agg 8 := by rw [shOf_struct Tryz.underlying66, show Tryz.prog.cellsOf 66 = 8 by kernel_rfl]
 have hb : 1 ≤ Tryz.prog.bytesOf 66 := Nat.le_of_ble_eq_true (by kernel_rfl)
 rw [hs] at hx ⊢
 have : ∀ x ∈ l, ∃ a : Item, x = itemA a ∧ okItem a := by
  intro x hxl
  obtain ⟨ys, hy, rfl⟩ := hx x hxl
  obtain ⟨a, e1, g1⟩ := ty_Item hy
  exact ⟨a, by rw [e1]; rfl, g1⟩
 obtain ⟨a, rfl, ha⟩ := list_of' this
 exact ⟨a, rfl, Nat.le_trans (by simpa using Nat.le_mul_of_pos_right (a.map itemA).length hb) hl, ha⟩
theorem ty_Store {n : Nat} {xs : List AV} (h : TyC Tryz.prog n 37 xs) : ∃ a : Store, xs = storeC a ∧ okStore a := by
 obtain ⟨hl, hf⟩ := ty_struct h Tryz.underlying37
 have c24 : Tryz.prog.cellsOf 24 = 1 := by kernel_rfl
 have c29 : Tryz.prog.cellsOf 29 = 1 := by kernel_rfl
 have c37 : Tryz.prog.cellsOf 37 = 2 := by kernel_rfl
 rw [c37] at hl
 have h0 := hf _ (List.mem_cons_self ..)
 dsimp only at h0
 rw [c24] at h0
 obtain ⟨a0, e0, g0⟩ := ty_Vec h0
 have e0 := drop_more e0 rfl
 have h1 := hf _ (List.mem_cons_of_mem _ (List.mem_cons_self ..))
 dsimp only at h1
 rw [c29] at h1
 obtain ⟨a1, e1, g1⟩ := ty_LItem h1
 have e1 := drop_more e1 rfl
 rw [drop_all' hl] at e1
 rw [e1] at e0
 exact ⟨⟨a0, a1⟩, by rw [List.drop_zero] at e0; rw [e0]; rfl, g0, g1⟩
theorem ty_Lstring {n : Nat} {xs : List AV} (h : TyC Tryz.prog n 41 xs) : ∃ a : List (List UInt8), xs = [.list (.leaf) (a.map AV.str)] ∧ (a.length ≤ reachBytes ∧ ∀ y ∈ a, y.length ≤ reachBytes) := by
 obtain ⟨l, rfl, hl, hx⟩ := ty_slice h Tryz.underlying41
 have hs : shOf Tryz.prog 9 = .leaf := by exact shOf_str Tryz.underlying9
 have hb : 1 ≤ Tryz.prog.bytesOf 9 := Nat.le_of_ble_eq_true (by kernel_rfl)
 rw [hs] at hx ⊢
 have : ∀ x ∈ l, ∃ a : List UInt8, x = AV.str a ∧ a.length ≤ reachBytes := by
  intro x hxl
  obtain ⟨ys, hy, rfl⟩ := hx x hxl
  obtain ⟨a, e1, g1⟩ := ty_str hy Tryz.underlying9
  exact ⟨a, by rw [e1]; rfl, g1⟩
 obtain ⟨a, rfl, ha⟩ := list_of' this
 exact ⟨a, rfl, Nat.le_trans (by simpa using Nat.le_mul_of_pos_right (a.map AV.str).length hb) hl, ha⟩
end Go.Bv
