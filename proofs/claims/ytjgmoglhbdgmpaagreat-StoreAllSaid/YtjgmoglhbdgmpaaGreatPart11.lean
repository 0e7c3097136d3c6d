/- Part of the lift: an abstract walk of the program's code, proved sound, and what it shows of this program. -/
import Derived.Test.YtjgmoglhbdgmpaaGreatPart10
import Derived.Sort.LotD4
import Derived.Test.YtjgmoglhbdgmpaaGreatPart6
import Derived.Test.YtjgmoglhbdgmpaaGreatPart4
import Derived.Sort.LotD5
import Derived.Test.YtjgmoglhbdgmpaaGreatPart3
import Derived.Test.YtjgmoglhbdgmpaaGreatChecked
namespace Go.Bv
set_option linter.unusedSimpArgs false
set_option linter.unusedVariables false
set_option maxHeartbeats 4000000
set_option maxRecDepth 20000
open Go Go.Proofs
open Go.Sort (swp scanUp scanDown partLoop partition partEqLoop partitionEqual)
theorem scanUp_go {p : Item → Bool} {d : Array Item} {j i : Nat} (h : i ≤ j) (hp : p d[i]! = true) : scanUp p d j i = scanUp p d j (i + 1) := by
 rw [scanUp.eq_def, if_pos (by simp [h, hp])]
theorem scanUp_stop {p : Item → Bool} {d : Array Item} {j i : Nat} (h : ¬ i ≤ j ∨ p d[i]! = false) : scanUp p d j i = i := by
 rw [scanUp.eq_def, if_neg]
 rcases h with h | h
 ·simp [h]
 ·simp [h]
theorem scanDown_go {p : Item → Bool} {d : Array Item} {j i : Nat} (h : i ≤ j + 1) (hp : p d[j + 1]! = true) : scanDown p d i (j + 1) = scanDown p d i j := by
 rw [scanDown, if_pos (by simp [h, hp])]
theorem scanDown_stop {p : Item → Bool} {d : Array Item} {j i : Nat} (h : ¬ i ≤ j ∨ p d[j]! = false) : scanDown p d i j = j := by
 cases j with
 | zero => rfl
 | succ k =>
  rw [scanDown, if_neg]
  rcases h with h | h
  ·simp; omega
  ·simp [h]
theorem partitionEqual_walk (l : List Item) (a b pivot : Nat) (hap : a ≤ pivot) (hpb : pivot < b) (hb : b ≤ l.length) (hl : l.length ≤ 2 ^ 39) : ACalls Tryz.prog Nm.slices_partitionEqualCmpFunc_api_Item [.own 0 0 l.length, i64 a, i64 b, i64 pivot, .fn Nm.item_compare []]
  [.row .vrow (.agg 8) (l.map itemA)] (i64 (partitionEqual ltI l.toArray a b pivot).1) [.row .vrow (.agg 8) ((partitionEqual ltI l.toArray a b pivot).2.toList.map itemA)] := by
 refine ACalls_of tab (dr_snd tab mixed) Nm.slices_partitionEqualCmpFunc_api_Item_h rfl (by kernel_rfl) (Nat.le_of_ble_eq_true rfl) rfl ?_
 have ka : a < l.length := by omega
 have kp : pivot < l.length := by omega
 refine NP.mk (by kernel_rfl) ?_
 apply NDr.any
 ·intro H'
  exact ⟨rfl, rfl⟩
 refine NDr.w _ ?_
 apply NDr.any
 ·intro H'
  exact ⟨rfl, rfl⟩
 refine NDr.w _ ?_
 apply NDr.any
 ·intro H'
  exact ⟨rfl, rfl⟩
 refine NDr.w _ ?_
 apply NDr.rd [0]
 ·intro fH TH
  refine NP.mk (by (simp only [zLm, zLa, zLr, zLc, zLn, zLt, zLd]; omega)) ?_
  exact ⟨rfl, rfl⟩
 apply NDr.rd [0]
 ·intro fH TH
  refine NG.map0N (by omega) ?_
  exact ⟨rfl, rfl⟩
 apply NDr.any
 ·intro H'
  exact ⟨rfl, rfl⟩
 refine NDr.w _ ?_
 apply NDr.rd [0]
 ·intro fH TH
  refine NP.mk (by (simp only [zLm, zLa, zLr, zLc, zLn, zLt, zLd]; omega)) ?_
  exact ⟨rfl, rfl⟩
 apply NDr.rd [0]
 ·intro fH TH
  refine NG.map0N (by omega) ?_
  exact ⟨rfl, rfl⟩
 apply NDr.rd [0]
 ·intro fH TH
  refine NP.mk (by (simp only [zLm, zLa, zLr, zLc, zLn, zLt, zLd]; omega)) ?_
  exact ⟨rfl, rfl⟩
 apply NDr.efw [0]
 ·refine NG.map0N (by omega) ?_
  exact ⟨rfl, rfl⟩
 ·repeat (first | exact True.intro | refine ⟨by first | exact rfl | exact True.intro, ?_⟩)
 apply NDr.efw []
 ·refine NP.mk (by (simp; omega)) ?_
  exact ⟨rfl, rfl⟩
 ·repeat (first | exact True.intro | refine ⟨by first | exact rfl | exact True.intro, ?_⟩)
 apply NDr.efw [0]
 ·refine NG.get (by simp; omega) ?_
  exact ⟨rfl, rfl⟩
 ·repeat (first | exact True.intro | refine ⟨by first | exact rfl | exact True.intro, ?_⟩)
 refine NP.mk (by kernel_rfl) ?_
 refine NW.w ?_
 refine NW.w ?_
 refine NLoop.mk [] [0, 1, 4, 11, 12] (fun m vs H => ∃ (i j : Nat) (d : List Item), a + 1 ≤ i ∧ i ≤ j + 1 ∧ j < b ∧ m = j + 1 - i ∧ d.length = l.length ∧ partEqLoop ltI a i j d.toArray = partitionEqual ltI l.toArray a b pivot ∧ H = [.row .vrow (.agg 8) (d.map itemA)] ∧
  vs = [.own 0 0 l.length, i64 a, .fn Nm.item_compare [], i64 i, i64 j]) rfl ?_ ?_
 ·refine Canon.mk [] rfl ⟨b - 1 + 1 - (a + 1), a + 1, b - 1, swpL l a pivot ka kp, Nat.le_refl _, by omega, by omega, rfl, swpL_len ka kp, ?_, ?_, by rw [show ((b : Int) - 1) = ((b - 1 : Nat) : Int) by omega]; rfl⟩
  ·rw [← swpL_eq ka kp]; rfl
  ·rw [← swpL_row ka kp, Nat.zero_add, Nat.zero_add]; rfl
 rintro m vs H ⟨i, j, d, hai, hij1, hjb, rfl, hdl, he, rfl, rfl⟩
 have ha : a < d.length := by omega
 skip
 refine NLoop.mk [] [0, 1, 4, 11, 12] (fun m vs H => ∃ (i2 : Nat), i ≤ i2 ∧ i2 ≤ j + 1 ∧ m = j + 1 - i2 ∧ scanUp (fun x => !ltI d.toArray[a]! x) d.toArray (j) i2 = scanUp (fun x => !ltI d.toArray[a]! x) d.toArray (j) (i) ∧ H = [.row .vrow (.agg 8) (d.map itemA)] ∧ vs = [.own 0 0 l.length, i64 a, .fn Nm.item_compare [], i64 i2, i64 j]) rfl ?_ ?_
 ·exact Canon.mk [] rfl ⟨_, i, Nat.le_refl _, by omega, rfl, rfl, rfl, rfl⟩
 rintro m vs H ⟨i2, hi2, hi2', rfl, hu, rfl, rfl⟩
 by_cases hiu : i2 ≤ j ∧ (fun x => !ltI d.toArray[a]! x) d.toArray[i2]! = true
 ·obtain ⟨hij, hpu⟩ := hiu
  have ki : i2 < d.length := by omega
  have hpu' := hpu
  rw [getA ki] at hpu'
  simp only [getA ha] at hpu'
  have b1 := item_compare_walk d[a] d[i2]
  have q1 := ltF (by simpa using hpu')
  refine NP.mk (by kernel_rfl) ?_
  refine NDr.w _ ?_
  refine NDr.w _ ?_
  apply NDr.pure
  ·refine ND.yes (by omega) ?_
   exact ⟨rfl, rfl⟩
  refine NDr.w _ ?_
  refine NDr.w _ ?_
  apply NDr.any
  ·intro H'
   exact ⟨rfl, rfl⟩
  refine NDr.w _ ?_
  apply NDr.rd [0]
  ·intro fH TH
   refine NP.mk (by (simp only [zLm, zLa, zLr, zLc, zLn, zLt, zLd]; omega)) ?_
   exact ⟨rfl, rfl⟩
  apply NDr.rd [0]
  ·intro fH TH
   refine NG.map0N (by omega) ?_
   exact ⟨rfl, rfl⟩
  apply NDr.any
  ·intro H'
   exact ⟨rfl, rfl⟩
  refine NDr.w _ ?_
  apply NDr.rd [0]
  ·intro fH TH
   refine NP.mk (by (simp only [zLm, zLa, zLr, zLc, zLn, zLt, zLd]; omega)) ?_
   exact ⟨rfl, rfl⟩
  apply NDr.rd [0]
  ·intro fH TH
   refine NG.map0N (by omega) ?_
   exact ⟨rfl, rfl⟩
  apply NDr.pure
  ·refine NCall.call (b1) rfl rfl ?_
   exact ⟨rfl, rfl⟩
  apply NDr.pure
  ·refine ND.no (by omega) ?_
   exact ⟨rfl, rfl⟩
  refine NDr.w _ ?_
  refine NDr.w _ ?_
  refine NP.mk (by kernel_rfl) ?_
  refine NW.w ?_
  exact Canon.mk [] rfl ⟨j + 1 - (i2 + 1), by omega, i2 + 1, by omega, by omega, rfl, by rw [← hu, scanUp_go hij hpu], rfl, rfl⟩
 have hstop : scanUp (fun x => !ltI d.toArray[a]! x) d.toArray (j) (i) = i2 := by
  rw [← hu]
  refine scanUp_stop ?_
  by_cases h : i2 ≤ j
  ·exact .inr (by simpa using fun k => hiu ⟨h, k⟩)
  ·exact .inl h
 by_cases hij0 : i2 ≤ j
 ·have ki : i2 < d.length := by omega
  have hpu : (fun x => !ltI d.toArray[a]! x) d.toArray[i2]! = false := by simpa using fun k => hiu ⟨hij0, k⟩
  have hpu' := hpu
  rw [getA ki] at hpu'
  simp only [getA ha] at hpu'
  have b0 := item_compare_walk d[a] d[i2]
  have q0 := ltT (by simpa using hpu')
  refine NP.mk (by kernel_rfl) ?_
  refine NDr.w _ ?_
  refine NDr.w _ ?_
  apply NDr.pure
  ·refine ND.yes (by omega) ?_
   exact ⟨rfl, rfl⟩
  refine NDr.w _ ?_
  refine NDr.w _ ?_
  apply NDr.any
  ·intro H'
   exact ⟨rfl, rfl⟩
  refine NDr.w _ ?_
  apply NDr.rd [0]
  ·intro fH TH
   refine NP.mk (by (simp only [zLm, zLa, zLr, zLc, zLn, zLt, zLd]; omega)) ?_
   exact ⟨rfl, rfl⟩
  apply NDr.rd [0]
  ·intro fH TH
   refine NG.map0N (by omega) ?_
   exact ⟨rfl, rfl⟩
  apply NDr.any
  ·intro H'
   exact ⟨rfl, rfl⟩
  refine NDr.w _ ?_
  apply NDr.rd [0]
  ·intro fH TH
   refine NP.mk (by (simp only [zLm, zLa, zLr, zLc, zLn, zLt, zLd]; omega)) ?_
   exact ⟨rfl, rfl⟩
  apply NDr.rd [0]
  ·intro fH TH
   refine NG.map0N (by omega) ?_
   exact ⟨rfl, rfl⟩
  apply NDr.pure
  ·refine NCall.call (b0) rfl rfl ?_
   exact ⟨rfl, rfl⟩
  apply NDr.pure
  ·refine ND.yes (by omega) ?_
   exact ⟨rfl, rfl⟩
  refine NDr.w _ ?_
  refine NDr.w _ ?_
  refine NP.mk (by kernel_rfl) ?_
  refine NLoop.mk [] [0, 1, 4, 11, 12] (fun m vs H => ∃ (j2 : Nat), j2 ≤ j ∧ i2 ≤ j2 + 1 ∧ j2 = m ∧ scanDown (fun x => ltI d.toArray[a]! x) d.toArray i2 j2 = scanDown (fun x => ltI d.toArray[a]! x) d.toArray i2 (j) ∧ H = [.row .vrow (.agg 8) (d.map itemA)] ∧ vs = [.own 0 0 l.length, i64 a, .fn Nm.item_compare [], i64 i2, i64 j2]) rfl ?_ ?_
  ·exact Canon.mk [] rfl ⟨_, j, Nat.le_refl _, by omega, rfl, rfl, rfl, rfl⟩
  rintro m vs H ⟨j2, hj2, hj2', rfl, hv, rfl, rfl⟩
  by_cases hjd : i2 ≤ j2 ∧ (fun x => ltI d.toArray[a]! x) d.toArray[j2]! = true
  ·obtain ⟨hij, hpd⟩ := hjd
   obtain ⟨j2, rfl⟩ : ∃ k, j2 = k + 1 := ⟨j2 - 1, by omega⟩
   have kj : j2 + 1 < d.length := by omega
   have hpd' := hpd
   rw [getA kj] at hpd'
   simp only [getA ha] at hpd'
   have b1 := item_compare_walk d[a] d[j2 + 1]
   have q1 := ltT (hpd')
   refine NP.mk (by kernel_rfl) ?_
   refine NDr.w _ ?_
   refine NDr.w _ ?_
   apply NDr.pure
   ·refine ND.yes (by omega) ?_
    exact ⟨rfl, rfl⟩
   refine NDr.w _ ?_
   refine NDr.w _ ?_
   apply NDr.any
   ·intro H'
    exact ⟨rfl, rfl⟩
   refine NDr.w _ ?_
   apply NDr.rd [0]
   ·intro fH TH
    refine NP.mk (by (simp only [zLm, zLa, zLr, zLc, zLn, zLt, zLd]; omega)) ?_
    exact ⟨rfl, rfl⟩
   apply NDr.rd [0]
   ·intro fH TH
    refine NG.map0N (by omega) ?_
    exact ⟨rfl, rfl⟩
   apply NDr.any
   ·intro H'
    exact ⟨rfl, rfl⟩
   refine NDr.w _ ?_
   apply NDr.rd [0]
   ·intro fH TH
    refine NP.mk (by (simp only [zLm, zLa, zLr, zLc, zLn, zLt, zLd]; omega)) ?_
    exact ⟨rfl, rfl⟩
   apply NDr.rd [0]
   ·intro fH TH
    refine NG.map0N (by omega) ?_
    exact ⟨rfl, rfl⟩
   apply NDr.pure
   ·refine NCall.call (b1) rfl rfl ?_
    exact ⟨rfl, rfl⟩
   apply NDr.pure
   ·refine ND.yes (by omega) ?_
    exact ⟨rfl, rfl⟩
   refine NDr.w _ ?_
   refine NP.mk (by kernel_rfl) ?_
   refine NW.w ?_
   exact Canon.mk [] rfl ⟨j2, by omega, j2, by omega, by omega, rfl, by rw [← hv, scanDown_go hij hpd], rfl, by rw [show (((j2 + 1 : Nat) : Int) - 1) = (j2 : Int) by omega]; rfl⟩
  have hstop2 : scanDown (fun x => ltI d.toArray[a]! x) d.toArray i2 (j) = j2 := by
   rw [← hv]
   refine scanDown_stop ?_
   by_cases h : i2 ≤ j2
   ·exact .inr (by simpa using fun k => hjd ⟨h, k⟩)
   ·exact .inl h
  by_cases hij : i2 ≤ j2
  ·have kj : j2 < d.length := by omega
   have hpd : (fun x => ltI d.toArray[a]! x) d.toArray[j2]! = false := by simpa using fun k => hjd ⟨hij, k⟩
   have hpd' := hpd
   have hne : i2 ≠ j2 := fun e => by rw [← e] at hpd'; rw [getA ki] at hpd'; simp only [getA ha] at hpd'; simp_all
   rw [getA kj] at hpd'
   simp only [getA ha] at hpd'
   have b1 := item_compare_walk d[a] d[j2]
   have q1 := ltF (hpd')
   refine NP.mk (by kernel_rfl) ?_
   refine NDr.w _ ?_
   refine NDr.w _ ?_
   apply NDr.pure
   ·refine ND.yes (by omega) ?_
    exact ⟨rfl, rfl⟩
   refine NDr.w _ ?_
   refine NDr.w _ ?_
   apply NDr.any
   ·intro H'
    exact ⟨rfl, rfl⟩
   refine NDr.w _ ?_
   apply NDr.rd [0]
   ·intro fH TH
    refine NP.mk (by (simp only [zLm, zLa, zLr, zLc, zLn, zLt, zLd]; omega)) ?_
    exact ⟨rfl, rfl⟩
   apply NDr.rd [0]
   ·intro fH TH
    refine NG.map0N (by omega) ?_
    exact ⟨rfl, rfl⟩
   apply NDr.any
   ·intro H'
    exact ⟨rfl, rfl⟩
   refine NDr.w _ ?_
   apply NDr.rd [0]
   ·intro fH TH
    refine NP.mk (by (simp only [zLm, zLa, zLr, zLc, zLn, zLt, zLd]; omega)) ?_
    exact ⟨rfl, rfl⟩
   apply NDr.rd [0]
   ·intro fH TH
    refine NG.map0N (by omega) ?_
    exact ⟨rfl, rfl⟩
   apply NDr.pure
   ·refine NCall.call (b1) rfl rfl ?_
    exact ⟨rfl, rfl⟩
   apply NDr.pure
   ·refine ND.no (by omega) ?_
    exact ⟨rfl, rfl⟩
   refine NDr.w _ ?_
   refine NP.mk (by kernel_rfl) ?_
   refine ND.no (by omega) ?_
   refine NP.mk (by kernel_rfl) ?_
   apply NDr.any
   ·intro H'
    exact ⟨rfl, rfl⟩
   refine NDr.w _ ?_
   apply NDr.any
   ·intro H'
    exact ⟨rfl, rfl⟩
   refine NDr.w _ ?_
   apply NDr.any
   ·intro H'
    exact ⟨rfl, rfl⟩
   refine NDr.w _ ?_
   apply NDr.rd [0]
   ·intro fH TH
    refine NP.mk (by (simp only [zLm, zLa, zLr, zLc, zLn, zLt, zLd]; omega)) ?_
    exact ⟨rfl, rfl⟩
   apply NDr.rd [0]
   ·intro fH TH
    refine NG.map0N (by omega) ?_
    exact ⟨rfl, rfl⟩
   apply NDr.any
   ·intro H'
    exact ⟨rfl, rfl⟩
   refine NDr.w _ ?_
   apply NDr.rd [0]
   ·intro fH TH
    refine NP.mk (by (simp only [zLm, zLa, zLr, zLc, zLn, zLt, zLd]; omega)) ?_
    exact ⟨rfl, rfl⟩
   apply NDr.rd [0]
   ·intro fH TH
    refine NG.map0N (by omega) ?_
    exact ⟨rfl, rfl⟩
   apply NDr.rd [0]
   ·intro fH TH
    refine NP.mk (by (simp only [zLm, zLa, zLr, zLc, zLn, zLt, zLd]; omega)) ?_
    exact ⟨rfl, rfl⟩
   apply NDr.efw [0]
   ·refine NG.map0N (by omega) ?_
    exact ⟨rfl, rfl⟩
   ·repeat (first | exact True.intro | refine ⟨by first | exact rfl | exact True.intro, ?_⟩)
   apply NDr.efw []
   ·refine NP.mk (by (simp; omega)) ?_
    exact ⟨rfl, rfl⟩
   ·repeat (first | exact True.intro | refine ⟨by first | exact rfl | exact True.intro, ?_⟩)
   apply NDr.efw [0]
   ·refine NG.get (by simp; omega) ?_
    exact ⟨rfl, rfl⟩
   ·repeat (first | exact True.intro | refine ⟨by first | exact rfl | exact True.intro, ?_⟩)
   refine NP.mk (by kernel_rfl) ?_
   refine NW.w ?_
   refine NW.w ?_
   refine Canon.mk [] rfl ⟨j2 - 1 + 1 - (i2 + 1), by omega, i2 + 1, j2 - 1, swpL d i2 j2 ki kj, by omega, by omega, by omega, rfl, (swpL_len ki kj).trans hdl, ?_, ?_, by rw [show ((j2 : Int) - 1) = ((j2 - 1 : Nat) : Int) by omega]; rfl⟩
   ·rw [← he, Go.Sort.partEqLoop_eq ltI a i j d.toArray, hstop, hstop2, if_neg (by omega), swpL_eq ki kj]
   ·rw [← swpL_row ki kj, Nat.zero_add, Nat.zero_add]; rfl
  ·skip
   refine NP.mk (by kernel_rfl) ?_
   refine NDr.w _ ?_
   refine NDr.w _ ?_
   apply NDr.pure
   ·refine ND.no (by omega) ?_
    exact ⟨rfl, rfl⟩
   refine NDr.w _ ?_
   refine NDr.w _ ?_
   refine NP.mk (by kernel_rfl) ?_
   refine ND.yes (by omega) ?_
   have hres : partEqLoop ltI a i j d.toArray = (i2, d.toArray) := by rw [Go.Sort.partEqLoop_eq, hstop, hstop2, if_pos (by omega)]
   rw [← he, hres]
   exact NRet.mk [] rfl ⟨.refl _, rfl⟩
 ·refine NP.mk (by kernel_rfl) ?_
  refine NDr.w _ ?_
  refine NDr.w _ ?_
  apply NDr.pure
  ·refine ND.no (by omega) ?_
   exact ⟨rfl, rfl⟩
  refine NDr.w _ ?_
  refine NDr.w _ ?_
  refine NP.mk (by kernel_rfl) ?_
  refine NLoop.mk [] [0, 1, 4, 11, 12] (fun m vs H => m = 0 ∧ H = [.row .vrow (.agg 8) (d.map itemA)] ∧ vs = [.own 0 0 l.length, i64 a, .fn Nm.item_compare [], i64 i2, i64 j]) rfl ?_ ?_
  ·exact Canon.mk [] rfl ⟨_, rfl, rfl, rfl⟩
  rintro m vs H ⟨rfl, rfl, rfl⟩
  have hstop2 : scanDown (fun x => ltI d.toArray[a]! x) d.toArray i2 (j) = j := scanDown_stop (.inl hij0)
  refine NP.mk (by kernel_rfl) ?_
  refine NDr.w _ ?_
  refine NDr.w _ ?_
  apply NDr.pure
  ·refine ND.no (by omega) ?_
   exact ⟨rfl, rfl⟩
  refine NDr.w _ ?_
  refine NDr.w _ ?_
  refine NP.mk (by kernel_rfl) ?_
  refine ND.yes (by omega) ?_
  have hres : partEqLoop ltI a i j d.toArray = (i2, d.toArray) := by rw [Go.Sort.partEqLoop_eq, hstop, hstop2, if_pos (by omega)]
  rw [← he, hres]
  exact NRet.mk [] rfl ⟨.refl _, rfl⟩
theorem partition_walk (l : List Item) (a b pivot : Nat) (hap : a ≤ pivot) (hpb : pivot < b) (hb : b ≤ l.length) (hl : l.length ≤ 2 ^ 39) : ACalls Tryz.prog Nm.slices_partitionCmpFunc_api_Item [.own 0 0 l.length, i64 a, i64 b, i64 pivot, .fn Nm.item_compare []]
  [.row .vrow (.agg 8) (l.map itemA)] (.tup [i64 (partition ltI l.toArray a b pivot).1, .bool (partition ltI l.toArray a b pivot).2.1]) [.row .vrow (.agg 8) ((partition ltI l.toArray a b pivot).2.2.toList.map itemA)] := by
 refine ACalls_of tab (dr_snd tab mixed) Nm.slices_partitionCmpFunc_api_Item_h rfl (by kernel_rfl) (Nat.le_of_ble_eq_true rfl) rfl ?_
 have ka : a < l.length := by omega
 have kp : pivot < l.length := by omega
 have hP : partition ltI l.toArray a b pivot = if scanUp (fun x => ltI x (swpL l a pivot ka kp).toArray[a]!) (swpL l a pivot ka kp).toArray (b - 1) (a + 1) > scanDown (fun x => !ltI x (swpL l a pivot ka kp).toArray[a]!) (swpL l a pivot ka kp).toArray (scanUp (fun x => ltI x (swpL l a pivot ka kp).toArray[a]!) (swpL l a pivot ka kp).toArray (b - 1) (a + 1)) (b - 1)
   then (scanDown (fun x => !ltI x (swpL l a pivot ka kp).toArray[a]!) (swpL l a pivot ka kp).toArray (scanUp (fun x => ltI x (swpL l a pivot ka kp).toArray[a]!) (swpL l a pivot ka kp).toArray (b - 1) (a + 1)) (b - 1), true, swp (swpL l a pivot ka kp).toArray (scanDown (fun x => !ltI x (swpL l a pivot ka kp).toArray[a]!) (swpL l a pivot ka kp).toArray (scanUp (fun x => ltI x (swpL l a pivot ka kp).toArray[a]!) (swpL l a pivot ka kp).toArray (b - 1) (a + 1)) (b - 1)) a)
   else ((partLoop ltI a (scanUp (fun x => ltI x (swpL l a pivot ka kp).toArray[a]!) (swpL l a pivot ka kp).toArray (b - 1) (a + 1) + 1) (scanDown (fun x => !ltI x (swpL l a pivot ka kp).toArray[a]!) (swpL l a pivot ka kp).toArray (scanUp (fun x => ltI x (swpL l a pivot ka kp).toArray[a]!) (swpL l a pivot ka kp).toArray (b - 1) (a + 1)) (b - 1) - 1) (swp (swpL l a pivot ka kp).toArray (scanUp (fun x => ltI x (swpL l a pivot ka kp).toArray[a]!) (swpL l a pivot ka kp).toArray (b - 1) (a + 1)) (scanDown (fun x => !ltI x (swpL l a pivot ka kp).toArray[a]!) (swpL l a pivot ka kp).toArray (scanUp (fun x => ltI x (swpL l a pivot ka kp).toArray[a]!) (swpL l a pivot ka kp).toArray (b - 1) (a + 1)) (b - 1)))).1, false,
    swp (partLoop ltI a (scanUp (fun x => ltI x (swpL l a pivot ka kp).toArray[a]!) (swpL l a pivot ka kp).toArray (b - 1) (a + 1) + 1) (scanDown (fun x => !ltI x (swpL l a pivot ka kp).toArray[a]!) (swpL l a pivot ka kp).toArray (scanUp (fun x => ltI x (swpL l a pivot ka kp).toArray[a]!) (swpL l a pivot ka kp).toArray (b - 1) (a + 1)) (b - 1) - 1) (swp (swpL l a pivot ka kp).toArray (scanUp (fun x => ltI x (swpL l a pivot ka kp).toArray[a]!) (swpL l a pivot ka kp).toArray (b - 1) (a + 1)) (scanDown (fun x => !ltI x (swpL l a pivot ka kp).toArray[a]!) (swpL l a pivot ka kp).toArray (scanUp (fun x => ltI x (swpL l a pivot ka kp).toArray[a]!) (swpL l a pivot ka kp).toArray (b - 1) (a + 1)) (b - 1)))).2
     (partLoop ltI a (scanUp (fun x => ltI x (swpL l a pivot ka kp).toArray[a]!) (swpL l a pivot ka kp).toArray (b - 1) (a + 1) + 1) (scanDown (fun x => !ltI x (swpL l a pivot ka kp).toArray[a]!) (swpL l a pivot ka kp).toArray (scanUp (fun x => ltI x (swpL l a pivot ka kp).toArray[a]!) (swpL l a pivot ka kp).toArray (b - 1) (a + 1)) (b - 1) - 1) (swp (swpL l a pivot ka kp).toArray (scanUp (fun x => ltI x (swpL l a pivot ka kp).toArray[a]!) (swpL l a pivot ka kp).toArray (b - 1) (a + 1)) (scanDown (fun x => !ltI x (swpL l a pivot ka kp).toArray[a]!) (swpL l a pivot ka kp).toArray (scanUp (fun x => ltI x (swpL l a pivot ka kp).toArray[a]!) (swpL l a pivot ka kp).toArray (b - 1) (a + 1)) (b - 1)))).1 a) := by
  rw [← swpL_eq ka kp]; rfl
 have hrow := swpL_row ka kp
 have hel := swpL_len ka kp
 refine NP.mk (by kernel_rfl) ?_
 apply NDr.any
 ·intro H'
  exact ⟨rfl, rfl⟩
 refine NDr.w _ ?_
 apply NDr.any
 ·intro H'
  exact ⟨rfl, rfl⟩
 refine NDr.w _ ?_
 apply NDr.any
 ·intro H'
  exact ⟨rfl, rfl⟩
 refine NDr.w _ ?_
 apply NDr.rd [0]
 ·intro fH TH
  refine NP.mk (by (simp only [zLm, zLa, zLr, zLc, zLn, zLt, zLd]; omega)) ?_
  exact ⟨rfl, rfl⟩
 apply NDr.rd [0]
 ·intro fH TH
  refine NG.map0N (by omega) ?_
  exact ⟨rfl, rfl⟩
 apply NDr.any
 ·intro H'
  exact ⟨rfl, rfl⟩
 refine NDr.w _ ?_
 apply NDr.rd [0]
 ·intro fH TH
  refine NP.mk (by (simp only [zLm, zLa, zLr, zLc, zLn, zLt, zLd]; omega)) ?_
  exact ⟨rfl, rfl⟩
 apply NDr.rd [0]
 ·intro fH TH
  refine NG.map0N (by omega) ?_
  exact ⟨rfl, rfl⟩
 apply NDr.rd [0]
 ·intro fH TH
  refine NP.mk (by (simp only [zLm, zLa, zLr, zLc, zLn, zLt, zLd]; omega)) ?_
  exact ⟨rfl, rfl⟩
 apply NDr.efw [0]
 ·refine NG.map0N (by omega) ?_
  exact ⟨rfl, rfl⟩
 ·repeat (first | exact True.intro | refine ⟨by first | exact rfl | exact True.intro, ?_⟩)
 apply NDr.efw []
 ·refine NP.mk (by (simp; omega)) ?_
  exact ⟨rfl, rfl⟩
 ·repeat (first | exact True.intro | refine ⟨by first | exact rfl | exact True.intro, ?_⟩)
 apply NDr.efw [0]
 ·refine NG.get (by simp; omega) ?_
  exact ⟨rfl, rfl⟩
 ·repeat (first | exact True.intro | refine ⟨by first | exact rfl | exact True.intro, ?_⟩)
 refine NP.mk (by kernel_rfl) ?_
 refine NW.w ?_
 refine NW.w ?_
 generalize swpL l a pivot ka kp = e at *
 obtain ⟨bq, hbq⟩ : ∃ k, k = b - 1 := ⟨_, rfl⟩
 rw [← hbq] at hP
 have ha : a < e.length := by omega
 refine NLoop.mk [] [0, 1, 4, 12, 13] (fun m vs H => ∃ (i2 : Nat), (a + 1) ≤ i2 ∧ i2 ≤ bq + 1 ∧ m = bq + 1 - i2 ∧ scanUp (fun x => ltI x e.toArray[a]!) e.toArray (bq) i2 = scanUp (fun x => ltI x e.toArray[a]!) e.toArray (bq) ((a + 1)) ∧ H = [.row .vrow (.agg 8) (e.map itemA)] ∧ vs = [.own 0 0 l.length, i64 a, .fn Nm.item_compare [], i64 i2, i64 bq]) rfl ?_ ?_
 ·exact Canon.mk [] rfl ⟨_, (a + 1), Nat.le_refl _, by omega, rfl, rfl, by rw [← hrow, Nat.zero_add, Nat.zero_add]; rfl, by rw [show ((b : Int) - 1) = (bq : Int) by omega]; rfl⟩
 rintro m vs H ⟨i2, hi2, hi2', rfl, hu, rfl, rfl⟩
 by_cases hiu : i2 ≤ bq ∧ (fun x => ltI x e.toArray[a]!) e.toArray[i2]! = true
 ·obtain ⟨hij, hpu⟩ := hiu
  have ki : i2 < e.length := by omega
  have hpu' := hpu
  rw [getA ki] at hpu'
  simp only [getA ha] at hpu'
  have b1 := item_compare_walk e[i2] e[a]
  have q1 := ltT (hpu')
  refine NP.mk (by kernel_rfl) ?_
  refine NDr.w _ ?_
  refine NDr.w _ ?_
  apply NDr.pure
  ·refine ND.yes (by omega) ?_
   exact ⟨rfl, rfl⟩
  refine NDr.w _ ?_
  refine NDr.w _ ?_
  apply NDr.any
  ·intro H'
   exact ⟨rfl, rfl⟩
  refine NDr.w _ ?_
  apply NDr.rd [0]
  ·intro fH TH
   refine NP.mk (by (simp only [zLm, zLa, zLr, zLc, zLn, zLt, zLd]; omega)) ?_
   exact ⟨rfl, rfl⟩
  apply NDr.rd [0]
  ·intro fH TH
   refine NG.map0N (by omega) ?_
   exact ⟨rfl, rfl⟩
  apply NDr.any
  ·intro H'
   exact ⟨rfl, rfl⟩
  refine NDr.w _ ?_
  apply NDr.rd [0]
  ·intro fH TH
   refine NP.mk (by (simp only [zLm, zLa, zLr, zLc, zLn, zLt, zLd]; omega)) ?_
   exact ⟨rfl, rfl⟩
  apply NDr.rd [0]
  ·intro fH TH
   refine NG.map0N (by omega) ?_
   exact ⟨rfl, rfl⟩
  apply NDr.pure
  ·refine NCall.call (b1) rfl rfl ?_
   exact ⟨rfl, rfl⟩
  apply NDr.pure
  ·refine ND.yes (by omega) ?_
   exact ⟨rfl, rfl⟩
  refine NDr.w _ ?_
  refine NP.mk (by kernel_rfl) ?_
  refine NW.w ?_
  exact Canon.mk [] rfl ⟨bq + 1 - (i2 + 1), by omega, i2 + 1, by omega, by omega, rfl, by rw [← hu, scanUp_go hij hpu], rfl, rfl⟩
 have hstop : scanUp (fun x => ltI x e.toArray[a]!) e.toArray (bq) ((a + 1)) = i2 := by
  rw [← hu]
  refine scanUp_stop ?_
  by_cases h : i2 ≤ bq
  ·exact .inr (by simpa using fun k => hiu ⟨h, k⟩)
  ·exact .inl h
 by_cases hij0 : i2 ≤ bq
 ·have ki : i2 < e.length := by omega
  have hpu : (fun x => ltI x e.toArray[a]!) e.toArray[i2]! = false := by simpa using fun k => hiu ⟨hij0, k⟩
  have hpu' := hpu
  rw [getA ki] at hpu'
  simp only [getA ha] at hpu'
  have b0 := item_compare_walk e[i2] e[a]
  have q0 := ltF (hpu')
  refine NP.mk (by kernel_rfl) ?_
  refine NDr.w _ ?_
  refine NDr.w _ ?_
  apply NDr.pure
  ·refine ND.yes (by omega) ?_
   exact ⟨rfl, rfl⟩
  refine NDr.w _ ?_
  refine NDr.w _ ?_
  apply NDr.any
  ·intro H'
   exact ⟨rfl, rfl⟩
  refine NDr.w _ ?_
  apply NDr.rd [0]
  ·intro fH TH
   refine NP.mk (by (simp only [zLm, zLa, zLr, zLc, zLn, zLt, zLd]; omega)) ?_
   exact ⟨rfl, rfl⟩
  apply NDr.rd [0]
  ·intro fH TH
   refine NG.map0N (by omega) ?_
   exact ⟨rfl, rfl⟩
  apply NDr.any
  ·intro H'
   exact ⟨rfl, rfl⟩
  refine NDr.w _ ?_
  apply NDr.rd [0]
  ·intro fH TH
   refine NP.mk (by (simp only [zLm, zLa, zLr, zLc, zLn, zLt, zLd]; omega)) ?_
   exact ⟨rfl, rfl⟩
  apply NDr.rd [0]
  ·intro fH TH
   refine NG.map0N (by omega) ?_
   exact ⟨rfl, rfl⟩
  apply NDr.pure
  ·refine NCall.call (b0) rfl rfl ?_
   exact ⟨rfl, rfl⟩
  apply NDr.pure
  ·refine ND.no (by omega) ?_
   exact ⟨rfl, rfl⟩
  refine NDr.w _ ?_
  refine NP.mk (by kernel_rfl) ?_
  refine NLoop.mk [] [0, 1, 4, 12, 13] (fun m vs H => ∃ (j2 : Nat), j2 ≤ bq ∧ i2 ≤ j2 + 1 ∧ j2 = m ∧ scanDown (fun x => !ltI x e.toArray[a]!) e.toArray i2 j2 = scanDown (fun x => !ltI x e.toArray[a]!) e.toArray i2 (bq) ∧ H = [.row .vrow (.agg 8) (e.map itemA)] ∧ vs = [.own 0 0 l.length, i64 a, .fn Nm.item_compare [], i64 i2, i64 j2]) rfl ?_ ?_
  ·exact Canon.mk [] rfl ⟨_, bq, Nat.le_refl _, by omega, rfl, rfl, rfl, rfl⟩
  rintro m vs H ⟨j2, hj2, hj2', rfl, hv, rfl, rfl⟩
  by_cases hjd : i2 ≤ j2 ∧ (fun x => !ltI x e.toArray[a]!) e.toArray[j2]! = true
  ·obtain ⟨hij, hpd⟩ := hjd
   obtain ⟨j2, rfl⟩ : ∃ k, j2 = k + 1 := ⟨j2 - 1, by omega⟩
   have kj : j2 + 1 < e.length := by omega
   have hpd' := hpd
   rw [getA kj] at hpd'
   simp only [getA ha] at hpd'
   have b1 := item_compare_walk e[j2 + 1] e[a]
   have q1 := ltF (by simpa using hpd')
   refine NP.mk (by kernel_rfl) ?_
   refine NDr.w _ ?_
   refine NDr.w _ ?_
   apply NDr.pure
   ·refine ND.yes (by omega) ?_
    exact ⟨rfl, rfl⟩
   refine NDr.w _ ?_
   refine NDr.w _ ?_
   apply NDr.any
   ·intro H'
    exact ⟨rfl, rfl⟩
   refine NDr.w _ ?_
   apply NDr.rd [0]
   ·intro fH TH
    refine NP.mk (by (simp only [zLm, zLa, zLr, zLc, zLn, zLt, zLd]; omega)) ?_
    exact ⟨rfl, rfl⟩
   apply NDr.rd [0]
   ·intro fH TH
    refine NG.map0N (by omega) ?_
    exact ⟨rfl, rfl⟩
   apply NDr.any
   ·intro H'
    exact ⟨rfl, rfl⟩
   refine NDr.w _ ?_
   apply NDr.rd [0]
   ·intro fH TH
    refine NP.mk (by (simp only [zLm, zLa, zLr, zLc, zLn, zLt, zLd]; omega)) ?_
    exact ⟨rfl, rfl⟩
   apply NDr.rd [0]
   ·intro fH TH
    refine NG.map0N (by omega) ?_
    exact ⟨rfl, rfl⟩
   apply NDr.pure
   ·refine NCall.call (b1) rfl rfl ?_
    exact ⟨rfl, rfl⟩
   apply NDr.pure
   ·refine ND.no (by omega) ?_
    exact ⟨rfl, rfl⟩
   refine NDr.w _ ?_
   refine NDr.w _ ?_
   refine NP.mk (by kernel_rfl) ?_
   refine NW.w ?_
   exact Canon.mk [] rfl ⟨j2, by omega, j2, by omega, by omega, rfl, by rw [← hv, scanDown_go hij hpd], rfl, by rw [show (((j2 + 1 : Nat) : Int) - 1) = (j2 : Int) by omega]; rfl⟩
  have hstop2 : scanDown (fun x => !ltI x e.toArray[a]!) e.toArray i2 (bq) = j2 := by
   rw [← hv]
   refine scanDown_stop ?_
   by_cases h : i2 ≤ j2
   ·exact .inr (by simpa using fun k => hjd ⟨h, k⟩)
   ·exact .inl h
  by_cases hij : i2 ≤ j2
  ·have kj : j2 < e.length := by omega
   have hpd : (fun x => !ltI x e.toArray[a]!) e.toArray[j2]! = false := by simpa using fun k => hjd ⟨hij, k⟩
   have hpd' := hpd
   have hne : i2 ≠ j2 := fun e => by rw [← e] at hpd'; rw [getA ki] at hpd'; simp only [getA ha] at hpd'; simp_all
   rw [getA kj] at hpd'
   simp only [getA ha] at hpd'
   have b1 := item_compare_walk e[j2] e[a]
   have q1 := ltT (by simpa using hpd')
   rw [hstop, hstop2, if_neg (by omega)] at hP
   rw [swpL_eq ki kj] at hP
   rw [hP]
   refine NP.mk (by kernel_rfl) ?_
   refine NDr.w _ ?_
   refine NDr.w _ ?_
   apply NDr.pure
   ·refine ND.yes (by omega) ?_
    exact ⟨rfl, rfl⟩
   refine NDr.w _ ?_
   refine NDr.w _ ?_
   apply NDr.any
   ·intro H'
    exact ⟨rfl, rfl⟩
   refine NDr.w _ ?_
   apply NDr.rd [0]
   ·intro fH TH
    refine NP.mk (by (simp only [zLm, zLa, zLr, zLc, zLn, zLt, zLd]; omega)) ?_
    exact ⟨rfl, rfl⟩
   apply NDr.rd [0]
   ·intro fH TH
    refine NG.map0N (by omega) ?_
    exact ⟨rfl, rfl⟩
   apply NDr.any
   ·intro H'
    exact ⟨rfl, rfl⟩
   refine NDr.w _ ?_
   apply NDr.rd [0]
   ·intro fH TH
    refine NP.mk (by (simp only [zLm, zLa, zLr, zLc, zLn, zLt, zLd]; omega)) ?_
    exact ⟨rfl, rfl⟩
   apply NDr.rd [0]
   ·intro fH TH
    refine NG.map0N (by omega) ?_
    exact ⟨rfl, rfl⟩
   apply NDr.pure
   ·refine NCall.call (b1) rfl rfl ?_
    exact ⟨rfl, rfl⟩
   apply NDr.pure
   ·refine ND.yes (by omega) ?_
    exact ⟨rfl, rfl⟩
   refine NDr.w _ ?_
   refine NDr.w _ ?_
   refine NP.mk (by kernel_rfl) ?_
   refine ND.no (by omega) ?_
   refine NP.mk (by kernel_rfl) ?_
   apply NDr.any
   ·intro H'
    exact ⟨rfl, rfl⟩
   refine NDr.w _ ?_
   apply NDr.any
   ·intro H'
    exact ⟨rfl, rfl⟩
   refine NDr.w _ ?_
   apply NDr.any
   ·intro H'
    exact ⟨rfl, rfl⟩
   refine NDr.w _ ?_
   apply NDr.rd [0]
   ·intro fH TH
    refine NP.mk (by (simp only [zLm, zLa, zLr, zLc, zLn, zLt, zLd]; omega)) ?_
    exact ⟨rfl, rfl⟩
   apply NDr.rd [0]
   ·intro fH TH
    refine NG.map0N (by omega) ?_
    exact ⟨rfl, rfl⟩
   apply NDr.any
   ·intro H'
    exact ⟨rfl, rfl⟩
   refine NDr.w _ ?_
   apply NDr.rd [0]
   ·intro fH TH
    refine NP.mk (by (simp only [zLm, zLa, zLr, zLc, zLn, zLt, zLd]; omega)) ?_
    exact ⟨rfl, rfl⟩
   apply NDr.rd [0]
   ·intro fH TH
    refine NG.map0N (by omega) ?_
    exact ⟨rfl, rfl⟩
   apply NDr.rd [0]
   ·intro fH TH
    refine NP.mk (by (simp only [zLm, zLa, zLr, zLc, zLn, zLt, zLd]; omega)) ?_
    exact ⟨rfl, rfl⟩
   apply NDr.efw [0]
   ·refine NG.map0N (by omega) ?_
    exact ⟨rfl, rfl⟩
   ·repeat (first | exact True.intro | refine ⟨by first | exact rfl | exact True.intro, ?_⟩)
   apply NDr.efw []
   ·refine NP.mk (by (simp; omega)) ?_
    exact ⟨rfl, rfl⟩
   ·repeat (first | exact True.intro | refine ⟨by first | exact rfl | exact True.intro, ?_⟩)
   apply NDr.efw [0]
   ·refine NG.get (by simp; omega) ?_
    exact ⟨rfl, rfl⟩
   ·repeat (first | exact True.intro | refine ⟨by first | exact rfl | exact True.intro, ?_⟩)
   refine NP.mk (by kernel_rfl) ?_
   refine NW.w ?_
   refine NW.w ?_
   refine NLoop.mk [] [0, 1, 4, 12, 13] (fun m vs H => ∃ (i j : Nat) (d : List Item), a + 1 ≤ i ∧ i ≤ j + 1 ∧ j < b ∧ m = j + 1 - i ∧ d.length = l.length ∧ partLoop ltI a i j d.toArray = partLoop ltI a (i2 + 1) (j2 - 1) (swpL e i2 j2 ki kj).toArray ∧ H = [.row .vrow (.agg 8) (d.map itemA)] ∧ vs = [.own 0 0 l.length, i64 a, .fn Nm.item_compare [], i64 i, i64 j]) rfl ?_ ?_
   ·refine Canon.mk [] rfl ⟨j2 - 1 + 1 - (i2 + 1), i2 + 1, j2 - 1, swpL e i2 j2 ki kj, by omega, by omega, by omega, rfl, (swpL_len ki kj).trans hel, rfl, ?_, by rw [show ((j2 : Int) - 1) = ((j2 - 1 : Nat) : Int) by omega]; rfl⟩
    rw [← swpL_row ki kj, Nat.zero_add, Nat.zero_add]; rfl
   rintro m vs H ⟨i, j, d, hai, hij1, hjb, rfl, hdl, he, rfl, rfl⟩
   have haB : a < d.length := by omega
   rw [← he]
   clear b0 b1 q0 q1 hpu' hpd'
   skip
   refine NLoop.mk [] [0, 1, 4, 12, 13] (fun m vs H => ∃ (i3 : Nat), i ≤ i3 ∧ i3 ≤ j + 1 ∧ m = j + 1 - i3 ∧ scanUp (fun x => ltI x d.toArray[a]!) d.toArray (j) i3 = scanUp (fun x => ltI x d.toArray[a]!) d.toArray (j) (i) ∧ H = [.row .vrow (.agg 8) (d.map itemA)] ∧ vs = [.own 0 0 l.length, i64 a, .fn Nm.item_compare [], i64 i3, i64 j]) rfl ?_ ?_
   ·exact Canon.mk [] rfl ⟨_, i, Nat.le_refl _, by omega, rfl, rfl, rfl, rfl⟩
   rintro m vs H ⟨i3, hi3, hi3', rfl, huB, rfl, rfl⟩
   by_cases hiuB : i3 ≤ j ∧ (fun x => ltI x d.toArray[a]!) d.toArray[i3]! = true
   ·obtain ⟨hij, hpu⟩ := hiuB
    have ki : i3 < d.length := by omega
    have hpu' := hpu
    rw [getA ki] at hpu'
    simp only [getA haB] at hpu'
    have b1 := item_compare_walk d[i3] d[a]
    have q1 := ltT (hpu')
    refine NP.mk (by kernel_rfl) ?_
    refine NDr.w _ ?_
    refine NDr.w _ ?_
    apply NDr.pure
    ·refine ND.yes (by omega) ?_
     exact ⟨rfl, rfl⟩
    refine NDr.w _ ?_
    refine NDr.w _ ?_
    apply NDr.any
    ·intro H'
     exact ⟨rfl, rfl⟩
    refine NDr.w _ ?_
    apply NDr.rd [0]
    ·intro fH TH
     refine NP.mk (by (simp only [zLm, zLa, zLr, zLc, zLn, zLt, zLd]; omega)) ?_
     exact ⟨rfl, rfl⟩
    apply NDr.rd [0]
    ·intro fH TH
     refine NG.map0N (by omega) ?_
     exact ⟨rfl, rfl⟩
    apply NDr.any
    ·intro H'
     exact ⟨rfl, rfl⟩
    refine NDr.w _ ?_
    apply NDr.rd [0]
    ·intro fH TH
     refine NP.mk (by (simp only [zLm, zLa, zLr, zLc, zLn, zLt, zLd]; omega)) ?_
     exact ⟨rfl, rfl⟩
    apply NDr.rd [0]
    ·intro fH TH
     refine NG.map0N (by omega) ?_
     exact ⟨rfl, rfl⟩
    apply NDr.pure
    ·refine NCall.call (b1) rfl rfl ?_
     exact ⟨rfl, rfl⟩
    apply NDr.pure
    ·refine ND.yes (by omega) ?_
     exact ⟨rfl, rfl⟩
    refine NDr.w _ ?_
    refine NP.mk (by kernel_rfl) ?_
    refine NW.w ?_
    exact Canon.mk [] rfl ⟨j + 1 - (i3 + 1), by omega, i3 + 1, by omega, by omega, rfl, by rw [← huB, scanUp_go hij hpu], rfl, rfl⟩
   have hstopB : scanUp (fun x => ltI x d.toArray[a]!) d.toArray (j) (i) = i3 := by
    rw [← huB]
    refine scanUp_stop ?_
    by_cases h : i3 ≤ j
    ·exact .inr (by simpa using fun k => hiuB ⟨h, k⟩)
    ·exact .inl h
   by_cases hij0B : i3 ≤ j
   ·have kiB : i3 < d.length := by omega
    have hpuB : (fun x => ltI x d.toArray[a]!) d.toArray[i3]! = false := by simpa using fun k => hiuB ⟨hij0B, k⟩
    have hpu' := hpuB
    rw [getA kiB] at hpu'
    simp only [getA haB] at hpu'
    have b0 := item_compare_walk d[i3] d[a]
    have q0 := ltF (hpu')
    refine NP.mk (by kernel_rfl) ?_
    refine NDr.w _ ?_
    refine NDr.w _ ?_
    apply NDr.pure
    ·refine ND.yes (by omega) ?_
     exact ⟨rfl, rfl⟩
    refine NDr.w _ ?_
    refine NDr.w _ ?_
    apply NDr.any
    ·intro H'
     exact ⟨rfl, rfl⟩
    refine NDr.w _ ?_
    apply NDr.rd [0]
    ·intro fH TH
     refine NP.mk (by (simp only [zLm, zLa, zLr, zLc, zLn, zLt, zLd]; omega)) ?_
     exact ⟨rfl, rfl⟩
    apply NDr.rd [0]
    ·intro fH TH
     refine NG.map0N (by omega) ?_
     exact ⟨rfl, rfl⟩
    apply NDr.any
    ·intro H'
     exact ⟨rfl, rfl⟩
    refine NDr.w _ ?_
    apply NDr.rd [0]
    ·intro fH TH
     refine NP.mk (by (simp only [zLm, zLa, zLr, zLc, zLn, zLt, zLd]; omega)) ?_
     exact ⟨rfl, rfl⟩
    apply NDr.rd [0]
    ·intro fH TH
     refine NG.map0N (by omega) ?_
     exact ⟨rfl, rfl⟩
    apply NDr.pure
    ·refine NCall.call (b0) rfl rfl ?_
     exact ⟨rfl, rfl⟩
    apply NDr.pure
    ·refine ND.no (by omega) ?_
     exact ⟨rfl, rfl⟩
    refine NDr.w _ ?_
    refine NP.mk (by kernel_rfl) ?_
    refine NLoop.mk [] [0, 1, 4, 12, 13] (fun m vs H => ∃ (j3 : Nat), j3 ≤ j ∧ i3 ≤ j3 + 1 ∧ j3 = m ∧ scanDown (fun x => !ltI x d.toArray[a]!) d.toArray i3 j3 = scanDown (fun x => !ltI x d.toArray[a]!) d.toArray i3 (j) ∧ H = [.row .vrow (.agg 8) (d.map itemA)] ∧ vs = [.own 0 0 l.length, i64 a, .fn Nm.item_compare [], i64 i3, i64 j3]) rfl ?_ ?_
    ·exact Canon.mk [] rfl ⟨_, j, Nat.le_refl _, by omega, rfl, rfl, rfl, rfl⟩
    rintro m vs H ⟨j3, hj3, hj3', rfl, hvB, rfl, rfl⟩
    by_cases hjdB : i3 ≤ j3 ∧ (fun x => !ltI x d.toArray[a]!) d.toArray[j3]! = true
    ·obtain ⟨hij, hpd⟩ := hjdB
     obtain ⟨j3, rfl⟩ : ∃ k, j3 = k + 1 := ⟨j3 - 1, by omega⟩
     have kj : j3 + 1 < d.length := by omega
     have hpd' := hpd
     rw [getA kj] at hpd'
     simp only [getA haB] at hpd'
     have b1 := item_compare_walk d[j3 + 1] d[a]
     have q1 := ltF (by simpa using hpd')
     refine NP.mk (by kernel_rfl) ?_
     refine NDr.w _ ?_
     refine NDr.w _ ?_
     apply NDr.pure
     ·refine ND.yes (by omega) ?_
      exact ⟨rfl, rfl⟩
     refine NDr.w _ ?_
     refine NDr.w _ ?_
     apply NDr.any
     ·intro H'
      exact ⟨rfl, rfl⟩
     refine NDr.w _ ?_
     apply NDr.rd [0]
     ·intro fH TH
      refine NP.mk (by (simp only [zLm, zLa, zLr, zLc, zLn, zLt, zLd]; omega)) ?_
      exact ⟨rfl, rfl⟩
     apply NDr.rd [0]
     ·intro fH TH
      refine NG.map0N (by omega) ?_
      exact ⟨rfl, rfl⟩
     apply NDr.any
     ·intro H'
      exact ⟨rfl, rfl⟩
     refine NDr.w _ ?_
     apply NDr.rd [0]
     ·intro fH TH
      refine NP.mk (by (simp only [zLm, zLa, zLr, zLc, zLn, zLt, zLd]; omega)) ?_
      exact ⟨rfl, rfl⟩
     apply NDr.rd [0]
     ·intro fH TH
      refine NG.map0N (by omega) ?_
      exact ⟨rfl, rfl⟩
     apply NDr.pure
     ·refine NCall.call (b1) rfl rfl ?_
      exact ⟨rfl, rfl⟩
     apply NDr.pure
     ·refine ND.no (by omega) ?_
      exact ⟨rfl, rfl⟩
     refine NDr.w _ ?_
     refine NDr.w _ ?_
     refine NP.mk (by kernel_rfl) ?_
     refine NW.w ?_
     exact Canon.mk [] rfl ⟨j3, by omega, j3, by omega, by omega, rfl, by rw [← hvB, scanDown_go hij hpd], rfl, by rw [show (((j3 + 1 : Nat) : Int) - 1) = (j3 : Int) by omega]; rfl⟩
    have hstop2B : scanDown (fun x => !ltI x d.toArray[a]!) d.toArray i3 (j) = j3 := by
     rw [← hvB]
     refine scanDown_stop ?_
     by_cases h : i3 ≤ j3
     ·exact .inr (by simpa using fun k => hjdB ⟨h, k⟩)
     ·exact .inl h
    by_cases hijB : i3 ≤ j3
    ·have kjB : j3 < d.length := by omega
     have hpdB : (fun x => !ltI x d.toArray[a]!) d.toArray[j3]! = false := by simpa using fun k => hjdB ⟨hijB, k⟩
     have hpd' := hpdB
     have hneB : i3 ≠ j3 := fun e => by rw [← e] at hpd'; rw [getA kiB] at hpd'; simp only [getA haB] at hpd'; simp_all
     rw [getA kjB] at hpd'
     simp only [getA haB] at hpd'
     have b1 := item_compare_walk d[j3] d[a]
     have q1 := ltT (by simpa using hpd')
     refine NP.mk (by kernel_rfl) ?_
     refine NDr.w _ ?_
     refine NDr.w _ ?_
     apply NDr.pure
     ·refine ND.yes (by omega) ?_
      exact ⟨rfl, rfl⟩
     refine NDr.w _ ?_
     refine NDr.w _ ?_
     apply NDr.any
     ·intro H'
      exact ⟨rfl, rfl⟩
     refine NDr.w _ ?_
     apply NDr.rd [0]
     ·intro fH TH
      refine NP.mk (by (simp only [zLm, zLa, zLr, zLc, zLn, zLt, zLd]; omega)) ?_
      exact ⟨rfl, rfl⟩
     apply NDr.rd [0]
     ·intro fH TH
      refine NG.map0N (by omega) ?_
      exact ⟨rfl, rfl⟩
     apply NDr.any
     ·intro H'
      exact ⟨rfl, rfl⟩
     refine NDr.w _ ?_
     apply NDr.rd [0]
     ·intro fH TH
      refine NP.mk (by (simp only [zLm, zLa, zLr, zLc, zLn, zLt, zLd]; omega)) ?_
      exact ⟨rfl, rfl⟩
     apply NDr.rd [0]
     ·intro fH TH
      refine NG.map0N (by omega) ?_
      exact ⟨rfl, rfl⟩
     apply NDr.pure
     ·refine NCall.call (b1) rfl rfl ?_
      exact ⟨rfl, rfl⟩
     apply NDr.pure
     ·refine ND.yes (by omega) ?_
      exact ⟨rfl, rfl⟩
     refine NDr.w _ ?_
     refine NDr.w _ ?_
     refine NP.mk (by kernel_rfl) ?_
     refine ND.no (by omega) ?_
     refine NP.mk (by kernel_rfl) ?_
     apply NDr.any
     ·intro H'
      exact ⟨rfl, rfl⟩
     refine NDr.w _ ?_
     apply NDr.any
     ·intro H'
      exact ⟨rfl, rfl⟩
     refine NDr.w _ ?_
     apply NDr.any
     ·intro H'
      exact ⟨rfl, rfl⟩
     refine NDr.w _ ?_
     apply NDr.rd [0]
     ·intro fH TH
      refine NP.mk (by (simp only [zLm, zLa, zLr, zLc, zLn, zLt, zLd]; omega)) ?_
      exact ⟨rfl, rfl⟩
     apply NDr.rd [0]
     ·intro fH TH
      refine NG.map0N (by omega) ?_
      exact ⟨rfl, rfl⟩
     apply NDr.any
     ·intro H'
      exact ⟨rfl, rfl⟩
     refine NDr.w _ ?_
     apply NDr.rd [0]
     ·intro fH TH
      refine NP.mk (by (simp only [zLm, zLa, zLr, zLc, zLn, zLt, zLd]; omega)) ?_
      exact ⟨rfl, rfl⟩
     apply NDr.rd [0]
     ·intro fH TH
      refine NG.map0N (by omega) ?_
      exact ⟨rfl, rfl⟩
     apply NDr.rd [0]
     ·intro fH TH
      refine NP.mk (by (simp only [zLm, zLa, zLr, zLc, zLn, zLt, zLd]; omega)) ?_
      exact ⟨rfl, rfl⟩
     apply NDr.efw [0]
     ·refine NG.map0N (by omega) ?_
      exact ⟨rfl, rfl⟩
     ·repeat (first | exact True.intro | refine ⟨by first | exact rfl | exact True.intro, ?_⟩)
     apply NDr.efw []
     ·refine NP.mk (by (simp; omega)) ?_
      exact ⟨rfl, rfl⟩
     ·repeat (first | exact True.intro | refine ⟨by first | exact rfl | exact True.intro, ?_⟩)
     apply NDr.efw [0]
     ·refine NG.get (by simp; omega) ?_
      exact ⟨rfl, rfl⟩
     ·repeat (first | exact True.intro | refine ⟨by first | exact rfl | exact True.intro, ?_⟩)
     refine NP.mk (by kernel_rfl) ?_
     refine NW.w ?_
     refine NW.w ?_
     refine Canon.mk [] rfl ⟨j3 - 1 + 1 - (i3 + 1), by omega, i3 + 1, j3 - 1, swpL d i3 j3 kiB kjB, by omega, by omega, by omega, rfl, (swpL_len kiB kjB).trans hdl, ?_, ?_, by rw [show ((j3 : Int) - 1) = ((j3 - 1 : Nat) : Int) by omega]; rfl⟩
     ·rw [Go.Sort.partLoop_eq ltI a i j d.toArray, hstopB, hstop2B, if_neg (by omega), swpL_eq kiB kjB]
     ·rw [← swpL_row kiB kjB, Nat.zero_add, Nat.zero_add]; rfl
    ·skip
     have kq : j3 < d.length := by omega
     refine NP.mk (by kernel_rfl) ?_
     refine NDr.w _ ?_
     refine NDr.w _ ?_
     apply NDr.pure
     ·refine ND.no (by omega) ?_
      exact ⟨rfl, rfl⟩
     refine NDr.w _ ?_
     refine NDr.w _ ?_
     refine NP.mk (by kernel_rfl) ?_
     refine ND.yes (by omega) ?_
     refine NP.mk (by kernel_rfl) ?_
     apply NDr.any
     ·intro H'
      exact ⟨rfl, rfl⟩
     refine NDr.w _ ?_
     apply NDr.any
     ·intro H'
      exact ⟨rfl, rfl⟩
     refine NDr.w _ ?_
     apply NDr.any
     ·intro H'
      exact ⟨rfl, rfl⟩
     refine NDr.w _ ?_
     apply NDr.rd [0]
     ·intro fH TH
      refine NP.mk (by (simp only [zLm, zLa, zLr, zLc, zLn, zLt, zLd]; omega)) ?_
      exact ⟨rfl, rfl⟩
     apply NDr.rd [0]
     ·intro fH TH
      refine NG.map0N (by omega) ?_
      exact ⟨rfl, rfl⟩
     apply NDr.any
     ·intro H'
      exact ⟨rfl, rfl⟩
     refine NDr.w _ ?_
     apply NDr.rd [0]
     ·intro fH TH
      refine NP.mk (by (simp only [zLm, zLa, zLr, zLc, zLn, zLt, zLd]; omega)) ?_
      exact ⟨rfl, rfl⟩
     apply NDr.rd [0]
     ·intro fH TH
      refine NG.map0N (by omega) ?_
      exact ⟨rfl, rfl⟩
     apply NDr.rd [0]
     ·intro fH TH
      refine NP.mk (by (simp only [zLm, zLa, zLr, zLc, zLn, zLt, zLd]; omega)) ?_
      exact ⟨rfl, rfl⟩
     apply NDr.efw [0]
     ·refine NG.map0N (by omega) ?_
      exact ⟨rfl, rfl⟩
     ·repeat (first | exact True.intro | refine ⟨by first | exact rfl | exact True.intro, ?_⟩)
     apply NDr.efw []
     ·refine NP.mk (by (simp; omega)) ?_
      exact ⟨rfl, rfl⟩
     ·repeat (first | exact True.intro | refine ⟨by first | exact rfl | exact True.intro, ?_⟩)
     apply NDr.efw [0]
     ·refine NG.get (by simp; omega) ?_
      exact ⟨rfl, rfl⟩
     ·repeat (first | exact True.intro | refine ⟨by first | exact rfl | exact True.intro, ?_⟩)
     refine NP.mk (by kernel_rfl) ?_
     have hres : partLoop ltI a i j d.toArray = (j3, d.toArray) := by rw [Go.Sort.partLoop_eq, hstopB, hstop2B, if_pos (by omega)]
     rw [hres]
     refine NRet.mk [] rfl ⟨.refl _, ?_⟩
     rw [swpL_eq kq haB, Nat.zero_add, Nat.zero_add]
     exact congrArg (fun l => [Blk.row .vrow (.agg 8) l]) (swpL_row kq haB).symm
   ·refine NP.mk (by kernel_rfl) ?_
    refine NDr.w _ ?_
    refine NDr.w _ ?_
    apply NDr.pure
    ·refine ND.no (by omega) ?_
     exact ⟨rfl, rfl⟩
    refine NDr.w _ ?_
    refine NDr.w _ ?_
    refine NP.mk (by kernel_rfl) ?_
    refine NLoop.mk [] [0, 1, 4, 12, 13] (fun m vs H => m = 0 ∧ H = [.row .vrow (.agg 8) (d.map itemA)] ∧ vs = [.own 0 0 l.length, i64 a, .fn Nm.item_compare [], i64 i3, i64 j]) rfl ?_ ?_
    ·exact Canon.mk [] rfl ⟨_, rfl, rfl, rfl⟩
    rintro m vs H ⟨rfl, rfl, rfl⟩
    have hstop2B : scanDown (fun x => !ltI x d.toArray[a]!) d.toArray i3 (j) = j := scanDown_stop (.inl hij0B)
    have kq : j < d.length := by omega
    refine NP.mk (by kernel_rfl) ?_
    refine NDr.w _ ?_
    refine NDr.w _ ?_
    apply NDr.pure
    ·refine ND.no (by omega) ?_
     exact ⟨rfl, rfl⟩
    refine NDr.w _ ?_
    refine NDr.w _ ?_
    refine NP.mk (by kernel_rfl) ?_
    refine ND.yes (by omega) ?_
    refine NP.mk (by kernel_rfl) ?_
    apply NDr.any
    ·intro H'
     exact ⟨rfl, rfl⟩
    refine NDr.w _ ?_
    apply NDr.any
    ·intro H'
     exact ⟨rfl, rfl⟩
    refine NDr.w _ ?_
    apply NDr.any
    ·intro H'
     exact ⟨rfl, rfl⟩
    refine NDr.w _ ?_
    apply NDr.rd [0]
    ·intro fH TH
     refine NP.mk (by (simp only [zLm, zLa, zLr, zLc, zLn, zLt, zLd]; omega)) ?_
     exact ⟨rfl, rfl⟩
    apply NDr.rd [0]
    ·intro fH TH
     refine NG.map0N (by omega) ?_
     exact ⟨rfl, rfl⟩
    apply NDr.any
    ·intro H'
     exact ⟨rfl, rfl⟩
    refine NDr.w _ ?_
    apply NDr.rd [0]
    ·intro fH TH
     refine NP.mk (by (simp only [zLm, zLa, zLr, zLc, zLn, zLt, zLd]; omega)) ?_
     exact ⟨rfl, rfl⟩
    apply NDr.rd [0]
    ·intro fH TH
     refine NG.map0N (by omega) ?_
     exact ⟨rfl, rfl⟩
    apply NDr.rd [0]
    ·intro fH TH
     refine NP.mk (by (simp only [zLm, zLa, zLr, zLc, zLn, zLt, zLd]; omega)) ?_
     exact ⟨rfl, rfl⟩
    apply NDr.efw [0]
    ·refine NG.map0N (by omega) ?_
     exact ⟨rfl, rfl⟩
    ·repeat (first | exact True.intro | refine ⟨by first | exact rfl | exact True.intro, ?_⟩)
    apply NDr.efw []
    ·refine NP.mk (by (simp; omega)) ?_
     exact ⟨rfl, rfl⟩
    ·repeat (first | exact True.intro | refine ⟨by first | exact rfl | exact True.intro, ?_⟩)
    apply NDr.efw [0]
    ·refine NG.get (by simp; omega) ?_
     exact ⟨rfl, rfl⟩
    ·repeat (first | exact True.intro | refine ⟨by first | exact rfl | exact True.intro, ?_⟩)
    refine NP.mk (by kernel_rfl) ?_
    have hres : partLoop ltI a i j d.toArray = (j, d.toArray) := by rw [Go.Sort.partLoop_eq, hstopB, hstop2B, if_pos (by omega)]
    rw [hres]
    refine NRet.mk [] rfl ⟨.refl _, ?_⟩
    rw [swpL_eq kq haB, Nat.zero_add, Nat.zero_add]
    exact congrArg (fun l => [Blk.row .vrow (.agg 8) l]) (swpL_row kq haB).symm
  ·skip
   have kq : j2 < e.length := by omega
   rw [hstop, hstop2, if_pos (by omega)] at hP
   rw [hP]
   refine NP.mk (by kernel_rfl) ?_
   refine NDr.w _ ?_
   refine NDr.w _ ?_
   apply NDr.pure
   ·refine ND.no (by omega) ?_
    exact ⟨rfl, rfl⟩
   refine NDr.w _ ?_
   refine NDr.w _ ?_
   refine NP.mk (by kernel_rfl) ?_
   refine ND.yes (by omega) ?_
   refine NP.mk (by kernel_rfl) ?_
   apply NDr.any
   ·intro H'
    exact ⟨rfl, rfl⟩
   refine NDr.w _ ?_
   apply NDr.any
   ·intro H'
    exact ⟨rfl, rfl⟩
   refine NDr.w _ ?_
   apply NDr.any
   ·intro H'
    exact ⟨rfl, rfl⟩
   refine NDr.w _ ?_
   apply NDr.rd [0]
   ·intro fH TH
    refine NP.mk (by (simp only [zLm, zLa, zLr, zLc, zLn, zLt, zLd]; omega)) ?_
    exact ⟨rfl, rfl⟩
   apply NDr.rd [0]
   ·intro fH TH
    refine NG.map0N (by omega) ?_
    exact ⟨rfl, rfl⟩
   apply NDr.any
   ·intro H'
    exact ⟨rfl, rfl⟩
   refine NDr.w _ ?_
   apply NDr.rd [0]
   ·intro fH TH
    refine NP.mk (by (simp only [zLm, zLa, zLr, zLc, zLn, zLt, zLd]; omega)) ?_
    exact ⟨rfl, rfl⟩
   apply NDr.rd [0]
   ·intro fH TH
    refine NG.map0N (by omega) ?_
    exact ⟨rfl, rfl⟩
   apply NDr.rd [0]
   ·intro fH TH
    refine NP.mk (by (simp only [zLm, zLa, zLr, zLc, zLn, zLt, zLd]; omega)) ?_
    exact ⟨rfl, rfl⟩
   apply NDr.efw [0]
   ·refine NG.map0N (by omega) ?_
    exact ⟨rfl, rfl⟩
   ·repeat (first | exact True.intro | refine ⟨by first | exact rfl | exact True.intro, ?_⟩)
   apply NDr.efw []
   ·refine NP.mk (by (simp; omega)) ?_
    exact ⟨rfl, rfl⟩
   ·repeat (first | exact True.intro | refine ⟨by first | exact rfl | exact True.intro, ?_⟩)
   apply NDr.efw [0]
   ·refine NG.get (by simp; omega) ?_
    exact ⟨rfl, rfl⟩
   ·repeat (first | exact True.intro | refine ⟨by first | exact rfl | exact True.intro, ?_⟩)
   refine NP.mk (by kernel_rfl) ?_
   refine NRet.mk [] rfl ⟨.refl _, ?_⟩
   rw [swpL_eq kq ha, Nat.zero_add, Nat.zero_add]
   exact congrArg (fun l => [Blk.row .vrow (.agg 8) l]) (swpL_row kq ha).symm
 ·refine NP.mk (by kernel_rfl) ?_
  refine NDr.w _ ?_
  refine NDr.w _ ?_
  apply NDr.pure
  ·refine ND.no (by omega) ?_
   exact ⟨rfl, rfl⟩
  refine NDr.w _ ?_
  refine NDr.w _ ?_
  refine NP.mk (by kernel_rfl) ?_
  refine NLoop.mk [] [0, 1, 4, 12, 13] (fun m vs H => m = 0 ∧ H = [.row .vrow (.agg 8) (e.map itemA)] ∧ vs = [.own 0 0 l.length, i64 a, .fn Nm.item_compare [], i64 i2, i64 bq]) rfl ?_ ?_
  ·exact Canon.mk [] rfl ⟨_, rfl, rfl, rfl⟩
  rintro m vs H ⟨rfl, rfl, rfl⟩
  have hstop2 : scanDown (fun x => !ltI x e.toArray[a]!) e.toArray i2 (bq) = bq := scanDown_stop (.inl hij0)
  have kq : bq < e.length := by omega
  rw [hstop, hstop2, if_pos (by omega)] at hP
  rw [hP]
  refine NP.mk (by kernel_rfl) ?_
  refine NDr.w _ ?_
  refine NDr.w _ ?_
  apply NDr.pure
  ·refine ND.no (by omega) ?_
   exact ⟨rfl, rfl⟩
  refine NDr.w _ ?_
  refine NDr.w _ ?_
  refine NP.mk (by kernel_rfl) ?_
  refine ND.yes (by omega) ?_
  refine NP.mk (by kernel_rfl) ?_
  apply NDr.any
  ·intro H'
   exact ⟨rfl, rfl⟩
  refine NDr.w _ ?_
  apply NDr.any
  ·intro H'
   exact ⟨rfl, rfl⟩
  refine NDr.w _ ?_
  apply NDr.any
  ·intro H'
   exact ⟨rfl, rfl⟩
  refine NDr.w _ ?_
  apply NDr.rd [0]
  ·intro fH TH
   refine NP.mk (by (simp only [zLm, zLa, zLr, zLc, zLn, zLt, zLd]; omega)) ?_
   exact ⟨rfl, rfl⟩
  apply NDr.rd [0]
  ·intro fH TH
   refine NG.map0N (by omega) ?_
   exact ⟨rfl, rfl⟩
  apply NDr.any
  ·intro H'
   exact ⟨rfl, rfl⟩
  refine NDr.w _ ?_
  apply NDr.rd [0]
  ·intro fH TH
   refine NP.mk (by (simp only [zLm, zLa, zLr, zLc, zLn, zLt, zLd]; omega)) ?_
   exact ⟨rfl, rfl⟩
  apply NDr.rd [0]
  ·intro fH TH
   refine NG.map0N (by omega) ?_
   exact ⟨rfl, rfl⟩
  apply NDr.rd [0]
  ·intro fH TH
   refine NP.mk (by (simp only [zLm, zLa, zLr, zLc, zLn, zLt, zLd]; omega)) ?_
   exact ⟨rfl, rfl⟩
  apply NDr.efw [0]
  ·refine NG.map0N (by omega) ?_
   exact ⟨rfl, rfl⟩
  ·repeat (first | exact True.intro | refine ⟨by first | exact rfl | exact True.intro, ?_⟩)
  apply NDr.efw []
  ·refine NP.mk (by (simp; omega)) ?_
   exact ⟨rfl, rfl⟩
  ·repeat (first | exact True.intro | refine ⟨by first | exact rfl | exact True.intro, ?_⟩)
  apply NDr.efw [0]
  ·refine NG.get (by simp; omega) ?_
   exact ⟨rfl, rfl⟩
  ·repeat (first | exact True.intro | refine ⟨by first | exact rfl | exact True.intro, ?_⟩)
  refine NP.mk (by kernel_rfl) ?_
  refine NRet.mk [] rfl ⟨.refl _, ?_⟩
  rw [swpL_eq kq ha, Nat.zero_add, Nat.zero_add]
  exact congrArg (fun l => [Blk.row .vrow (.agg 8) l]) (swpL_row kq ha).symm
end Go.Bv
namespace Go.Bv
open Go Go.Proofs
theorem bv64 {x : Nat} (h : x < 2 ^ 64) : (BitVec.ofInt 64 (x : Int)).toNat = x := by
 simp only [BitVec.toNat_ofInt]; omega
theorem xor_u64n (a b : Nat) (ha : a < 2 ^ 64) (hb : b < 2 ^ 64) : bitop .xor .u64 (a : Int) (b : Int) = ((a ^^^ b : Nat) : Int) := by
 show IntKind.wrap .u64 ((BitVec.ofInt 64 (a : Int) ^^^ BitVec.ofInt 64 (b : Int)).toNat : Int) = _
 rw [BitVec.toNat_xor, bv64 ha, bv64 hb, wrap_u64]
 have := Nat.xor_lt_two_pow ha hb
 omega
theorem and_u64n (a b : Nat) (ha : a < 2 ^ 64) (hb : b < 2 ^ 64) : bitop .and .u64 (a : Int) (b : Int) = ((a &&& b : Nat) : Int) := by
 show IntKind.wrap .u64 ((BitVec.ofInt 64 (a : Int) &&& BitVec.ofInt 64 (b : Int)).toNat : Int) = _
 rw [BitVec.toNat_and, bv64 ha, bv64 hb, wrap_u64]
 have : a &&& b ≤ a := Nat.and_le_left
 omega
theorem shl13 (x : Nat) : IntKind.wrap .u64 ((x : Int) * 2 ^ min (Int.toNat 13) IntKind.u64.bits) = ((x * 8192 % 18446744073709551616 : Nat) : Int) := by
 rw [show (2 : Int) ^ min (Int.toNat 13) IntKind.u64.bits = 8192 by rfl, show ((x : Int) * 8192) = ((x * 8192 : Nat) : Int) by omega, wrap_u64]
 omega
theorem shl17 (x : Nat) : IntKind.wrap .u64 ((x : Int) * 2 ^ min (Int.toNat 17) IntKind.u64.bits) = ((x * 131072 % 18446744073709551616 : Nat) : Int) := by
 rw [show (2 : Int) ^ min (Int.toNat 17) IntKind.u64.bits = 131072 by rfl, show ((x : Int) * 131072) = ((x * 131072 : Nat) : Int) by omega, wrap_u64]
 omega
theorem shr7u (x : Nat) : ((x : Int).fdiv (2 ^ min (Int.toNat 7) IntKind.u64.bits)) = ((x / 128 : Nat) : Int) := by
 rw [show (2 : Int) ^ min (Int.toNat 7) IntKind.u64.bits = 128 by rfl, Int.fdiv_eq_ediv_of_nonneg _ (by omega)]
 omega
theorem shr8u (x : Nat) : ((x : Int).fdiv (2 ^ min (Int.toNat 8) IntKind.u64.bits)) = ((x / 256 : Nat) : Int) := by
 rw [show (2 : Int) ^ min (Int.toNat 8) IntKind.u64.bits = 256 by rfl, Int.fdiv_eq_ediv_of_nonneg _ (by omega)]
 omega
end Go.Bv
namespace Go.Bv.Nm
open Go Go.Proofs
abbrev slices_xorshift_Next : Nat := 154
noncomputable abbrev slices_xorshift_Next_f : Func := Tryz.f154
theorem slices_xorshift_Next_h : Tryz.prog.funcs[slices_xorshift_Next]? = some slices_xorshift_Next_f := Tryz.func154
end Go.Bv.Nm
namespace Go.Bv
set_option linter.unusedSimpArgs false
set_option linter.unusedVariables false
set_option maxHeartbeats 4000000
set_option maxRecDepth 20000
open Go Go.Proofs
open Go.Sort (xorNextN bitsLen)
theorem xorNext_walk (x : Nat) (hx : x < 2 ^ 64) : ACalls Tryz.prog Nm.slices_xorshift_Next [.ptr 0 0 0] [.row .box .leaf [.int .u64 x]] (.int .u64 (xorNextN x)) [.row .box .leaf [.int .u64 (xorNextN x)]] := by
 refine ACalls_of tab (dr_snd tab mixed) Nm.slices_xorshift_Next_h rfl (by kernel_rfl) (Nat.le_of_ble_eq_true rfl) rfl ?_
 unfold xorNextN
 have p : (2 : Nat) ^ 64 = 18446744073709551616 := by decide
 have l1 : x ^^^ (x * 8192 % 18446744073709551616) < 2 ^ 64 := Nat.xor_lt_two_pow hx (by omega)
 have e1 := shl13 x
 have f1 := xor_u64n x (x * 8192 % 18446744073709551616) hx (by omega)
 simp only
 generalize x ^^^ (x * 8192 % 18446744073709551616) = a at *
 have l2 : a ^^^ (a / 128) < 2 ^ 64 := Nat.xor_lt_two_pow l1 (by omega)
 have e2 := shr7u a
 have f2 := xor_u64n a (a / 128) l1 (by omega)
 generalize a ^^^ (a / 128) = b at *
 have e3 := shl17 b
 have f3 := xor_u64n b (b * 131072 % 18446744073709551616) l2 (by omega)
 generalize b ^^^ (b * 131072 % 18446744073709551616) = c at *
 refine NP.mk (by kernel_rfl) ?_
 apply NDr.any
 ·intro H'
  exact ⟨rfl, rfl⟩
 apply NDr.rd [0]
 ·intro fH TH
  exact ⟨rfl, rfl⟩
 apply NDr.rd [0]
 ·intro fH TH
  exact ⟨rfl, rfl⟩
 apply NDr.any
 ·intro H'
  exact ⟨rfl, rfl⟩
 apply NDr.rd [0]
 ·intro fH TH
  exact ⟨rfl, rfl⟩
 apply NDr.rd [0]
 ·intro fH TH
  exact ⟨rfl, rfl⟩
 apply NDr.pure
 ·refine NP.mk (by omega) ?_
  rw [(e1)]
  exact ⟨rfl, rfl⟩
 refine NDr.w _ ?_
 rw [(f1)]
 apply NDr.rd [0]
 ·intro fH TH
  exact ⟨rfl, rfl⟩
 apply NDr.efw [0]
 ·exact ⟨rfl, rfl⟩
 ·repeat (first | exact True.intro | refine ⟨by first | exact rfl | exact True.intro, ?_⟩)
 refine NP.mk (by kernel_rfl) ?_
 refine NP.mk (by kernel_rfl) ?_
 apply NDr.any
 ·intro H'
  exact ⟨rfl, rfl⟩
 apply NDr.rd [0]
 ·intro fH TH
  exact ⟨rfl, rfl⟩
 apply NDr.rd [0]
 ·intro fH TH
  exact ⟨rfl, rfl⟩
 apply NDr.any
 ·intro H'
  exact ⟨rfl, rfl⟩
 apply NDr.rd [0]
 ·intro fH TH
  exact ⟨rfl, rfl⟩
 apply NDr.rd [0]
 ·intro fH TH
  exact ⟨rfl, rfl⟩
 apply NDr.pure
 ·refine NP.mk (by omega) ?_
  rw [(e2)]
  exact ⟨rfl, rfl⟩
 refine NDr.w _ ?_
 rw [(f2)]
 apply NDr.rd [0]
 ·intro fH TH
  exact ⟨rfl, rfl⟩
 apply NDr.efw [0]
 ·exact ⟨rfl, rfl⟩
 ·repeat (first | exact True.intro | refine ⟨by first | exact rfl | exact True.intro, ?_⟩)
 refine NP.mk (by kernel_rfl) ?_
 refine NP.mk (by kernel_rfl) ?_
 apply NDr.any
 ·intro H'
  exact ⟨rfl, rfl⟩
 apply NDr.rd [0]
 ·intro fH TH
  exact ⟨rfl, rfl⟩
 apply NDr.rd [0]
 ·intro fH TH
  exact ⟨rfl, rfl⟩
 apply NDr.any
 ·intro H'
  exact ⟨rfl, rfl⟩
 apply NDr.rd [0]
 ·intro fH TH
  exact ⟨rfl, rfl⟩
 apply NDr.rd [0]
 ·intro fH TH
  exact ⟨rfl, rfl⟩
 apply NDr.pure
 ·refine NP.mk (by omega) ?_
  rw [(e3)]
  exact ⟨rfl, rfl⟩
 refine NDr.w _ ?_
 rw [(f3)]
 apply NDr.rd [0]
 ·intro fH TH
  exact ⟨rfl, rfl⟩
 apply NDr.efw [0]
 ·exact ⟨rfl, rfl⟩
 ·repeat (first | exact True.intro | refine ⟨by first | exact rfl | exact True.intro, ?_⟩)
 refine NP.mk (by kernel_rfl) ?_
 exact NRet.mk [] rfl ⟨.refl _, rfl⟩
/-- The table of lengths. -/
theorem NW.tab {T : List UInt8} {y : Nat} {next : Int → Prop} (hy : y < 256) (hT : ((List.range 256).all fun i => (T.getD i 0).toNat == bitsLen i) = true) (h : next (bitsLen y : Int)) : NW .i64 (((T.getD (Int.toNat (y : Int)) 0).toNat : Nat) : Int) next := by
 have e : (T.getD (Int.toNat (y : Int)) 0).toNat = bitsLen y := by
  rw [List.all_eq_true] at hT
  simpa using hT y (List.mem_range.2 hy)
 have hb := (Go.Sort.bitsLen_le_iff y 8).2 (by omega)
 rw [e]
 exact NW.i64 (by omega) (by omega) h
theorem bitsLen_shr (x : Nat) (h : 256 ≤ x) : bitsLen x = 8 + bitsLen (x / 256) := by
 unfold bitsLen
 have h1 : x ≠ 0 := by omega
 have h2 : x / 256 ≠ 0 := by omega
 rw [if_neg h1, if_neg h2]
 have : Nat.log2 x = Nat.log2 (x / 256) + 8 := by
  refine (Nat.log2_eq_iff h1).2 ⟨?_, ?_⟩
  ·have := Nat.log2_self_le h2
   rw [Nat.pow_add]
   omega
  ·have := Nat.lt_log2_self (n := x / 256)
   rw [show Nat.log2 (x / 256) + 8 + 1 = (Nat.log2 (x / 256) + 1) + 8 by omega, Nat.pow_add]
   omega
 omega
theorem len64_walk (x : Nat) (hx : x < 65536) : ACalls Tryz.prog Nm.math_bits_Len64 [.int .u64 x] [] (i64 (bitsLen x)) [] := by
 refine ACalls_of tab (dr_snd tab mixed) Nm.math_bits_Len64_h rfl (by kernel_rfl) (Nat.le_of_ble_eq_true rfl) rfl ?_
 have e8 := shr8u x
 have w8 : ∀ y : Nat, y < 256 → IntKind.wrap .u8 (y : Int) = (y : Int) := fun y hy => by rw [wrap_u8]; omega
 by_cases h : 256 ≤ x
 ·have hb := bitsLen_shr x h
  have hy : x / 256 < 256 := by omega
  rw [hb]
  clear hb
  generalize x / 256 = y at *
  have e9 := w8 y hy
  refine ND.no (by omega) ?_
  refine ND.no (by omega) ?_
  refine ND.yes (by omega) ?_
  refine NP.mk (by omega) ?_
  rw [(e8)]
  refine NW.w ?_
  refine NW.mk _ rfl ?_
  rw [(e9)]
  refine NP.mk (by (simp; omega)) ?_
  refine NW.tab hy (by kernel_rfl) ?_
  have hb := (Go.Sort.bitsLen_le_iff y 8).2 (by omega)
  refine NW.w ?_
  exact NRet.mk [] rfl ⟨.refl _, rfl⟩
 ·have hy : x < 256 := by omega
  have e9 := w8 x hy
  refine ND.no (by omega) ?_
  refine ND.no (by omega) ?_
  refine ND.no (by omega) ?_
  refine NW.mk _ rfl ?_
  rw [(e9)]
  refine NP.mk (by (simp; omega)) ?_
  refine NW.tab hy (by kernel_rfl) ?_
  have hb := (Go.Sort.bitsLen_le_iff x 8).2 (by omega)
  refine NW.w ?_
  refine NRet.intE ?_ (NRet.mk [] rfl ⟨.refl _, rfl⟩)
  omega
theorem len_walk (x : Nat) (hx : x < 65536) : ACalls Tryz.prog Nm.math_bits_Len [.int .u64 x] [] (i64 (bitsLen x)) [] := by
 refine ACalls_of tab (dr_snd tab mixed) Nm.math_bits_Len_h rfl (by kernel_rfl) (Nat.le_of_ble_eq_true rfl) rfl ?_
 have h1 := len64_walk x hx
 have e : IntKind.wrap .u64 (x : Int) = (x : Int) := by rw [wrap_u64]; omega
 refine NCall.call (h1) rfl rfl ?_
 exact NRet.mk [] rfl ⟨.refl _, rfl⟩
theorem pow2_walk (n : Nat) (hn : n < 65536) : ACalls Tryz.prog Nm.slices_nextPowerOfTwo [i64 n] [] (.int .u64 ((1 <<< bitsLen n : Nat) : Int)) [] := by
 refine ACalls_of tab (dr_snd tab mixed) Nm.slices_nextPowerOfTwo_h rfl (by kernel_rfl) (Nat.le_of_ble_eq_true rfl) rfl ?_
 have h1 := len_walk n hn
 have e : IntKind.wrap .u64 (n : Int) = (n : Int) := by rw [wrap_u64]; omega
 have hb := (Go.Sort.bitsLen_le_iff n 16).2 (by omega)
 have ep : ∀ k : Nat, k < 17 → IntKind.wrap .u64 (1 * 2 ^ min (Int.toNat (k : Int)) IntKind.u64.bits) = ((1 <<< k : Nat) : Int) := by decide
 have ep := ep (bitsLen n) (by omega)
 refine NW.mk _ rfl ?_
 rw [(e)]
 refine NCall.call (h1) rfl rfl ?_
 refine NP.mk (by omega) ?_
 rw [(ep)]
 exact NRet.mk [] rfl ⟨.refl _, rfl⟩
end Go.Bv
namespace Go.Bv
set_option linter.unusedSimpArgs false
set_option linter.unusedVariables false
set_option maxHeartbeats 4000000
set_option maxRecDepth 20000
open Go Go.Proofs
open Go.Sort (swp scanSorted shiftDown shiftUp partialIns partialInsertionSort fixDown fixUp xorNext xorNextN bitsLen breakStep breakPatterns)
theorem scanSorted_go {d : Array Item} {b i : Nat} (h : i < b) (hp : ltI d[i]! d[i - 1]! = false) : scanSorted ltI d b i = scanSorted ltI d b (i + 1) := by
 rw [scanSorted.eq_def, if_pos (by simp [h, hp])]
theorem scanSorted_stop {d : Array Item} {b i : Nat} (h : ¬ i < b ∨ ltI d[i]! d[i - 1]! = true) : scanSorted ltI d b i = i := by
 rw [scanSorted.eq_def, if_neg]
 rcases h with h | h
 ·simp [h]
 ·simp [h]
theorem partialIns_walk (l : List Item) (a b : Nat) (hab : a < b) (hb : b ≤ l.length) (hl : l.length ≤ 2 ^ 39) : ACalls Tryz.prog Nm.slices_partialInsertionSortCmpFunc_api_Item [.own 0 0 l.length, i64 a, i64 b, .fn Nm.item_compare []]
  [.row .vrow (.agg 8) (l.map itemA)] (.bool (partialInsertionSort ltI l.toArray a b).2) [.row .vrow (.agg 8) ((partialInsertionSort ltI l.toArray a b).1.toList.map itemA)] := by
 refine ACalls_of tab (dr_snd tab mixed) Nm.slices_partialInsertionSortCmpFunc_api_Item_h rfl (by kernel_rfl) (Nat.le_of_ble_eq_true rfl) rfl ?_
 refine NW.w ?_
 refine NLoop.mk [] [0, 1, 2, 3, 9, 10] (fun m vs H => ∃ (s i : Nat) (d : List Item), s ≤ 5 ∧ s = m ∧ a + 1 ≤ i ∧ i ≤ b ∧ d.length = l.length ∧ partialIns ltI a b s i d.toArray = partialInsertionSort ltI l.toArray a b ∧ H = [.row .vrow (.agg 8) (d.map itemA)] ∧
  vs = [.own 0 0 l.length, i64 a, i64 b, .fn Nm.item_compare [], i64 i, i64 (5 - s : Nat)]) rfl ?_ ?_
 ·exact Canon.mk [] rfl ⟨5, 5, a + 1, l, Nat.le_refl _, rfl, Nat.le_refl _, by omega, rfl, rfl, rfl, rfl⟩
 rintro m vs H ⟨s, i, d, hs, rfl, hai, hib, hdl, he, rfl, rfl⟩
 rw [← he]
 cases s with
 | zero =>
  refine ND.no (by omega) ?_
  exact NRet.mk [] rfl ⟨.refl _, rfl⟩
 | succ s =>
  have e5 : ((5 - (s + 1) : Nat) : Int) + 1 = ((5 - s : Nat) : Int) := by omega
  refine ND.yes (by omega) ?_
  refine NLoop.mk [] [0, 1, 2, 3, 9, 10] (fun m vs H => ∃ (i2 : Nat), i ≤ i2 ∧ i2 ≤ b ∧ m = b - i2 ∧ scanSorted ltI d.toArray b i2 = scanSorted ltI d.toArray b i ∧ H = [.row .vrow (.agg 8) (d.map itemA)] ∧
   vs = [.own 0 0 l.length, i64 a, i64 b, .fn Nm.item_compare [], i64 i2, i64 (5 - (s + 1) : Nat)]) rfl ?_ ?_
  ·exact Canon.mk [] rfl ⟨_, i, Nat.le_refl _, hib, rfl, rfl, rfl, rfl⟩
  rintro m vs H ⟨i2, hi2, hi2', rfl, hu, rfl, rfl⟩
  obtain ⟨k, rfl⟩ : ∃ k, i2 = k + 1 := ⟨i2 - 1, by omega⟩
  have ek : Int.toNat (((k + 1 : Nat) : Int) - 1) = k := by omega
  rw [Go.Sort.partialIns_succ]
  by_cases hkb : k + 1 < b
  ·have k1 : k + 1 < d.length := by omega
   have k0 : k < d.length := by omega
   have g1 := getA k1
   have g0 := getA k0
   have c1 := item_compare_walk d[k + 1] d[k]
   cases t : ltI d[k + 1] d[k] with
   | false =>
    have q := ltF t
    refine NP.mk (by kernel_rfl) ?_
    refine NDr.w _ ?_
    refine NDr.w _ ?_
    apply NDr.pure
    ·refine ND.yes (by omega) ?_
     exact ⟨rfl, rfl⟩
    refine NDr.w _ ?_
    refine NDr.w _ ?_
    apply NDr.any
    ·intro H'
     exact ⟨rfl, rfl⟩
    refine NDr.w _ ?_
    apply NDr.rd [0]
    ·intro fH TH
     refine NP.mk (by (simp only [zLm, zLa, zLr, zLc, zLn, zLt, zLd]; omega)) ?_
     exact ⟨rfl, rfl⟩
    apply NDr.rd [0]
    ·intro fH TH
     refine NG.map0N (by omega) ?_
     exact ⟨rfl, rfl⟩
    apply NDr.any
    ·intro H'
     exact ⟨rfl, rfl⟩
    refine NDr.w _ ?_
    apply NDr.pure
    ·refine NW.w ?_
     exact ⟨rfl, rfl⟩
    apply NDr.rd [0]
    ·intro fH TH
     refine NP.mk (by (simp only [zLm, zLa, zLr, zLc, zLn, zLt, zLd]; omega)) ?_
     rw [(ek)]
     exact ⟨rfl, rfl⟩
    apply NDr.rd [0]
    ·intro fH TH
     refine NG.map0N (by omega) ?_
     exact ⟨rfl, rfl⟩
    apply NDr.pure
    ·refine NCall.call (c1) rfl rfl ?_
     exact ⟨rfl, rfl⟩
    apply NDr.pure
    ·refine ND.no (by omega) ?_
     exact ⟨rfl, rfl⟩
    refine NDr.w _ ?_
    refine NDr.w _ ?_
    refine NP.mk (by kernel_rfl) ?_
    refine NW.w ?_
    exact Canon.mk [] rfl ⟨b - (k + 1 + 1), by omega, k + 1 + 1, by omega, by omega, rfl, by rw [← hu, scanSorted_go hkb (by rw [g1, Nat.add_sub_cancel, g0, t])], rfl, rfl⟩
   | true =>
    have q := ltT t
    have hst : scanSorted ltI d.toArray b i = k + 1 := by
     rw [← hu]
     exact scanSorted_stop (.inr (by rw [g1, Nat.add_sub_cancel, g0, t]))
    rw [hst, if_neg (by omega)]
    by_cases h50 : b - a < 50
    ·rw [if_pos h50]
     refine NP.mk (by kernel_rfl) ?_
     refine NDr.w _ ?_
     refine NDr.w _ ?_
     apply NDr.pure
     ·refine ND.yes (by omega) ?_
      exact ⟨rfl, rfl⟩
     refine NDr.w _ ?_
     refine NDr.w _ ?_
     apply NDr.any
     ·intro H'
      exact ⟨rfl, rfl⟩
     refine NDr.w _ ?_
     apply NDr.rd [0]
     ·intro fH TH
      refine NP.mk (by (simp only [zLm, zLa, zLr, zLc, zLn, zLt, zLd]; omega)) ?_
      exact ⟨rfl, rfl⟩
     apply NDr.rd [0]
     ·intro fH TH
      refine NG.map0N (by omega) ?_
      exact ⟨rfl, rfl⟩
     apply NDr.any
     ·intro H'
      exact ⟨rfl, rfl⟩
     refine NDr.w _ ?_
     apply NDr.pure
     ·refine NW.w ?_
      exact ⟨rfl, rfl⟩
     apply NDr.rd [0]
     ·intro fH TH
      refine NP.mk (by (simp only [zLm, zLa, zLr, zLc, zLn, zLt, zLd]; omega)) ?_
      rw [(ek)]
      exact ⟨rfl, rfl⟩
     apply NDr.rd [0]
     ·intro fH TH
      refine NG.map0N (by omega) ?_
      exact ⟨rfl, rfl⟩
     apply NDr.pure
     ·refine NCall.call (c1) rfl rfl ?_
      exact ⟨rfl, rfl⟩
     apply NDr.pure
     ·refine ND.yes (by omega) ?_
      exact ⟨rfl, rfl⟩
     refine NDr.w _ ?_
     refine NDr.w _ ?_
     refine NP.mk (by kernel_rfl) ?_
     refine ND.no (by omega) ?_
     refine NW.w ?_
     refine ND.yes (by omega) ?_
     exact NRet.mk [] rfl ⟨.refl _, rfl⟩
    ·rw [if_neg h50, Nat.add_sub_cancel, swpL_eq k1 k0]
     by_cases hdn : k + 1 - a ≥ 2
     ·refine NP.mk (by kernel_rfl) ?_
      refine NDr.w _ ?_
      refine NDr.w _ ?_
      apply NDr.pure
      ·refine ND.yes (by omega) ?_
       exact ⟨rfl, rfl⟩
      refine NDr.w _ ?_
      refine NDr.w _ ?_
      apply NDr.any
      ·intro H'
       exact ⟨rfl, rfl⟩
      refine NDr.w _ ?_
      apply NDr.rd [0]
      ·intro fH TH
       refine NP.mk (by (simp only [zLm, zLa, zLr, zLc, zLn, zLt, zLd]; omega)) ?_
       exact ⟨rfl, rfl⟩
      apply NDr.rd [0]
      ·intro fH TH
       refine NG.map0N (by omega) ?_
       exact ⟨rfl, rfl⟩
      apply NDr.any
      ·intro H'
       exact ⟨rfl, rfl⟩
      refine NDr.w _ ?_
      apply NDr.pure
      ·refine NW.w ?_
       exact ⟨rfl, rfl⟩
      apply NDr.rd [0]
      ·intro fH TH
       refine NP.mk (by (simp only [zLm, zLa, zLr, zLc, zLn, zLt, zLd]; omega)) ?_
       rw [(ek)]
       exact ⟨rfl, rfl⟩
      apply NDr.rd [0]
      ·intro fH TH
       refine NG.map0N (by omega) ?_
       exact ⟨rfl, rfl⟩
      apply NDr.pure
      ·refine NCall.call (c1) rfl rfl ?_
       exact ⟨rfl, rfl⟩
      apply NDr.pure
      ·refine ND.yes (by omega) ?_
       exact ⟨rfl, rfl⟩
      refine NDr.w _ ?_
      refine NDr.w _ ?_
      refine NP.mk (by kernel_rfl) ?_
      refine ND.no (by omega) ?_
      refine NW.w ?_
      refine ND.no (by omega) ?_
      refine NP.mk (by kernel_rfl) ?_
      apply NDr.any
      ·intro H'
       exact ⟨rfl, rfl⟩
      refine NDr.w _ ?_
      apply NDr.any
      ·intro H'
       exact ⟨rfl, rfl⟩
      refine NDr.w _ ?_
      apply NDr.pure
      ·refine NW.w ?_
       exact ⟨rfl, rfl⟩
      apply NDr.any
      ·intro H'
       exact ⟨rfl, rfl⟩
      refine NDr.w _ ?_
      apply NDr.pure
      ·refine NW.w ?_
       exact ⟨rfl, rfl⟩
      apply NDr.rd [0]
      ·intro fH TH
       refine NP.mk (by (simp only [zLm, zLa, zLr, zLc, zLn, zLt, zLd]; omega)) ?_
       rw [(ek)]
       exact ⟨rfl, rfl⟩
      apply NDr.rd [0]
      ·intro fH TH
       refine NG.map0N (by omega) ?_
       exact ⟨rfl, rfl⟩
      apply NDr.any
      ·intro H'
       exact ⟨rfl, rfl⟩
      refine NDr.w _ ?_
      apply NDr.rd [0]
      ·intro fH TH
       refine NP.mk (by (simp only [zLm, zLa, zLr, zLc, zLn, zLt, zLd]; omega)) ?_
       exact ⟨rfl, rfl⟩
      apply NDr.rd [0]
      ·intro fH TH
       refine NG.map0N (by omega) ?_
       exact ⟨rfl, rfl⟩
      apply NDr.rd [0]
      ·intro fH TH
       refine NP.mk (by (simp only [zLm, zLa, zLr, zLc, zLn, zLt, zLd]; omega)) ?_
       exact ⟨rfl, rfl⟩
      apply NDr.efw [0]
      ·refine NG.map0N (by omega) ?_
       exact ⟨rfl, rfl⟩
      ·repeat (first | exact True.intro | refine ⟨by first | exact rfl | exact True.intro, ?_⟩)
      apply NDr.efw []
      ·refine NP.mk (by (simp; omega)) ?_
       rw [(ek)]
       exact ⟨rfl, rfl⟩
      ·repeat (first | exact True.intro | refine ⟨by first | exact rfl | exact True.intro, ?_⟩)
      apply NDr.efw [0]
      ·refine NG.get (by simp; omega) ?_
       exact ⟨rfl, rfl⟩
      ·repeat (first | exact True.intro | refine ⟨by first | exact rfl | exact True.intro, ?_⟩)
      refine NP.mk (by kernel_rfl) ?_
      refine NW.w ?_
      refine ND.yes (by omega) ?_
      refine NW.w ?_
      refine NLoop.mk [] [0, 1, 2, 3, 9, 10, 11] (fun m vs H => ∃ (j : Nat) (e : List Item), j = m ∧ j ≤ k ∧ e.length = l.length ∧ shiftDown ltI j e.toArray = shiftDown ltI k (swpL d (k + 1) k k1 k0).toArray ∧ H = [.row .vrow (.agg 8) (e.map itemA)] ∧
       vs = [.own 0 0 l.length, i64 a, i64 b, .fn Nm.item_compare [], i64 (k + 1 : Nat), i64 (5 - (s + 1) : Nat), i64 j]) rfl ?_ ?_
      ·exact Canon.mk [] rfl ⟨_, k, swpL d (k + 1) k k1 k0, rfl, Nat.le_refl _, (swpL_len k1 k0).trans hdl, rfl, by rw [← swpL_row k1 k0, Nat.zero_add, Nat.zero_add]; rfl, by rw [show (((k + 1 : Nat) : Int) - 1) = (k : Int) by omega]; rfl⟩
      rintro m vs H ⟨j, e, rfl, hjk, hel, hes, rfl, rfl⟩
      have hD : ∀ g, shiftDown ltI j e.toArray = g → fixDown ltI a (k + 1) (swpL d (k + 1) k k1 k0).toArray = g := fun g hg => by unfold fixDown; rw [if_pos hdn, Nat.add_sub_cancel, ← hes, hg]
      clear c1 q t g1 g0
      cases j with
      | zero =>
       have hD := hD e.toArray rfl
       by_cases hup : b - (k + 1) ≥ 2
       ·refine ND.no (by omega) ?_
        refine NW.w ?_
        refine ND.yes (by omega) ?_
        refine NW.w ?_
        have e12 : ((k + 1 : Nat) : Int) + 1 = ((k + 2 : Nat) : Int) := by omega
        refine NLoop.mk [] [0, 1, 2, 3, 9, 10, 12] (fun m vs H => ∃ (j : Nat) (f : List Item), k + 2 ≤ j ∧ j ≤ b ∧ m = b - j ∧ f.length = l.length ∧ shiftUp ltI b j f.toArray = shiftUp ltI b (k + 2) e.toArray ∧ H = [.row .vrow (.agg 8) (f.map itemA)] ∧ vs = [.own 0 0 l.length, i64 a, i64 b, .fn Nm.item_compare [], i64 (k + 1 : Nat), i64 (5 - (s + 1) : Nat), i64 j]) rfl ?_ ?_
        ·exact Canon.mk [] rfl ⟨_, k + 2, e, Nat.le_refl _, by omega, rfl, hel, rfl, rfl, rfl⟩
        rintro m vs H ⟨j, f, hj, hjb, rfl, hfl, hf, rfl, rfl⟩
        obtain ⟨q, rfl⟩ : ∃ q, j = q + 1 := ⟨j - 1, by omega⟩
        have eq : Int.toNat (((q + 1 : Nat) : Int) - 1) = q := by omega
        have hU : ∀ g, shiftUp ltI b (q + 1) f.toArray = g → fixUp ltI b (k + 1) e.toArray = g := fun g hg => by unfold fixUp; rw [if_pos hup, ← hf, hg]
        by_cases hqb : q + 1 < b
        ·have z1 : q + 1 < f.length := by omega
         have z0 : q < f.length := by omega
         have y1 := getA z1
         have y0 := getA z0
         have c2 := item_compare_walk f[q + 1] f[q]
         cases t2 : ltI f[q + 1] f[q] with
         | true =>
          have q2 := ltT t2
          refine ND.yes (by omega) ?_
          refine NP.mk (by kernel_rfl) ?_
          refine NDr.w _ ?_
          apply NDr.any
          ·intro H'
           exact ⟨rfl, rfl⟩
          refine NDr.w _ ?_
          apply NDr.rd [0]
          ·intro fH TH
           refine NP.mk (by (simp only [zLm, zLa, zLr, zLc, zLn, zLt, zLd]; omega)) ?_
           exact ⟨rfl, rfl⟩
          apply NDr.rd [0]
          ·intro fH TH
           refine NG.map0N (by omega) ?_
           exact ⟨rfl, rfl⟩
          apply NDr.any
          ·intro H'
           exact ⟨rfl, rfl⟩
          refine NDr.w _ ?_
          apply NDr.pure
          ·refine NW.w ?_
           exact ⟨rfl, rfl⟩
          apply NDr.rd [0]
          ·intro fH TH
           refine NP.mk (by (simp only [zLm, zLa, zLr, zLc, zLn, zLt, zLd]; omega)) ?_
           rw [(eq)]
           exact ⟨rfl, rfl⟩
          apply NDr.rd [0]
          ·intro fH TH
           refine NG.map0N (by omega) ?_
           exact ⟨rfl, rfl⟩
          apply NDr.pure
          ·refine NCall.call (c2) rfl rfl ?_
           exact ⟨rfl, rfl⟩
          apply NDr.pure
          ·refine ND.yes (by omega) ?_
           exact ⟨rfl, rfl⟩
          refine NDr.w _ ?_
          refine NP.mk (by kernel_rfl) ?_
          refine NP.mk (by kernel_rfl) ?_
          apply NDr.any
          ·intro H'
           exact ⟨rfl, rfl⟩
          refine NDr.w _ ?_
          apply NDr.any
          ·intro H'
           exact ⟨rfl, rfl⟩
          refine NDr.w _ ?_
          apply NDr.pure
          ·refine NW.w ?_
           exact ⟨rfl, rfl⟩
          apply NDr.any
          ·intro H'
           exact ⟨rfl, rfl⟩
          refine NDr.w _ ?_
          apply NDr.pure
          ·refine NW.w ?_
           exact ⟨rfl, rfl⟩
          apply NDr.rd [0]
          ·intro fH TH
           refine NP.mk (by (simp only [zLm, zLa, zLr, zLc, zLn, zLt, zLd]; omega)) ?_
           rw [(eq)]
           exact ⟨rfl, rfl⟩
          apply NDr.rd [0]
          ·intro fH TH
           refine NG.map0N (by omega) ?_
           exact ⟨rfl, rfl⟩
          apply NDr.any
          ·intro H'
           exact ⟨rfl, rfl⟩
          refine NDr.w _ ?_
          apply NDr.rd [0]
          ·intro fH TH
           refine NP.mk (by (simp only [zLm, zLa, zLr, zLc, zLn, zLt, zLd]; omega)) ?_
           exact ⟨rfl, rfl⟩
          apply NDr.rd [0]
          ·intro fH TH
           refine NG.map0N (by omega) ?_
           exact ⟨rfl, rfl⟩
          apply NDr.rd [0]
          ·intro fH TH
           refine NP.mk (by (simp only [zLm, zLa, zLr, zLc, zLn, zLt, zLd]; omega)) ?_
           exact ⟨rfl, rfl⟩
          apply NDr.efw [0]
          ·refine NG.map0N (by omega) ?_
           exact ⟨rfl, rfl⟩
          ·repeat (first | exact True.intro | refine ⟨by first | exact rfl | exact True.intro, ?_⟩)
          apply NDr.efw []
          ·refine NP.mk (by (simp; omega)) ?_
           rw [(eq)]
           exact ⟨rfl, rfl⟩
          ·repeat (first | exact True.intro | refine ⟨by first | exact rfl | exact True.intro, ?_⟩)
          apply NDr.efw [0]
          ·refine NG.get (by simp; omega) ?_
           exact ⟨rfl, rfl⟩
          ·repeat (first | exact True.intro | refine ⟨by first | exact rfl | exact True.intro, ?_⟩)
          refine NP.mk (by kernel_rfl) ?_
          refine NW.w ?_
          exact Canon.mk [] rfl ⟨b - (q + 1 + 1), by omega, q + 1 + 1, swpL f (q + 1) q z1 z0, by omega, by omega, rfl, (swpL_len z1 z0).trans hfl, by rw [← hf, shiftUp.eq_def (j := q + 1), if_pos hqb, y1, Nat.add_sub_cancel, y0, t2, if_neg (by simp), swpL_eq z1 z0], by rw [← swpL_row z1 z0, Nat.zero_add, Nat.zero_add]; rfl, rfl⟩
         | false =>
          have q2 := ltF t2
          have hU := hU f.toArray (by rw [shiftUp.eq_def, if_pos hqb, y1, Nat.add_sub_cancel, y0, t2, if_pos (by simp)])
          refine ND.yes (by omega) ?_
          refine NP.mk (by kernel_rfl) ?_
          refine NDr.w _ ?_
          apply NDr.any
          ·intro H'
           exact ⟨rfl, rfl⟩
          refine NDr.w _ ?_
          apply NDr.rd [0]
          ·intro fH TH
           refine NP.mk (by (simp only [zLm, zLa, zLr, zLc, zLn, zLt, zLd]; omega)) ?_
           exact ⟨rfl, rfl⟩
          apply NDr.rd [0]
          ·intro fH TH
           refine NG.map0N (by omega) ?_
           exact ⟨rfl, rfl⟩
          apply NDr.any
          ·intro H'
           exact ⟨rfl, rfl⟩
          refine NDr.w _ ?_
          apply NDr.pure
          ·refine NW.w ?_
           exact ⟨rfl, rfl⟩
          apply NDr.rd [0]
          ·intro fH TH
           refine NP.mk (by (simp only [zLm, zLa, zLr, zLc, zLn, zLt, zLd]; omega)) ?_
           rw [(eq)]
           exact ⟨rfl, rfl⟩
          apply NDr.rd [0]
          ·intro fH TH
           refine NG.map0N (by omega) ?_
           exact ⟨rfl, rfl⟩
          apply NDr.pure
          ·refine NCall.call (c2) rfl rfl ?_
           exact ⟨rfl, rfl⟩
          apply NDr.pure
          ·refine ND.no (by omega) ?_
           exact ⟨rfl, rfl⟩
          refine NDr.w _ ?_
          refine NP.mk (by kernel_rfl) ?_
          refine NW.w ?_
          exact Canon.mk [] rfl ⟨s, by omega, s, k + 1, f, by omega, rfl, by omega, by omega, hfl, by rw [hD, hU], rfl, by rw [e5]; rfl⟩
        ·have hU := hU f.toArray (by rw [shiftUp.eq_def, if_neg hqb])
         refine ND.no (by omega) ?_
         refine NW.w ?_
         exact Canon.mk [] rfl ⟨s, by omega, s, k + 1, f, by omega, rfl, by omega, by omega, hfl, by rw [hD, hU], rfl, by rw [e5]; rfl⟩
       ·have hU : fixUp ltI b (k + 1) e.toArray = e.toArray := by unfold fixUp; rw [if_neg hup]
        refine ND.no (by omega) ?_
        refine NW.w ?_
        refine ND.no (by omega) ?_
        refine NW.w ?_
        exact Canon.mk [] rfl ⟨s, by omega, s, k + 1, e, by omega, rfl, by omega, by omega, hel, by rw [hD, hU], rfl, by rw [e5]; rfl⟩
      | succ q =>
       have eq0 : Int.toNat (((q + 1 : Nat) : Int) - 1) = q := by omega
       have z1 : q + 1 < e.length := by omega
       have z0 : q < e.length := by omega
       have y1 := getA z1
       have y0 := getA z0
       have c2 := item_compare_walk e[q + 1] e[q]
       cases t2 : ltI e[q + 1] e[q] with
       | true =>
        have q2 := ltT t2
        refine ND.yes (by omega) ?_
        refine NP.mk (by kernel_rfl) ?_
        refine NDr.w _ ?_
        apply NDr.any
        ·intro H'
         exact ⟨rfl, rfl⟩
        refine NDr.w _ ?_
        apply NDr.rd [0]
        ·intro fH TH
         refine NP.mk (by (simp only [zLm, zLa, zLr, zLc, zLn, zLt, zLd]; omega)) ?_
         exact ⟨rfl, rfl⟩
        apply NDr.rd [0]
        ·intro fH TH
         refine NG.map0N (by omega) ?_
         exact ⟨rfl, rfl⟩
        apply NDr.any
        ·intro H'
         exact ⟨rfl, rfl⟩
        refine NDr.w _ ?_
        apply NDr.pure
        ·refine NW.w ?_
         exact ⟨rfl, rfl⟩
        apply NDr.rd [0]
        ·intro fH TH
         refine NP.mk (by (simp only [zLm, zLa, zLr, zLc, zLn, zLt, zLd]; omega)) ?_
         rw [(eq0)]
         exact ⟨rfl, rfl⟩
        apply NDr.rd [0]
        ·intro fH TH
         refine NG.map0N (by omega) ?_
         exact ⟨rfl, rfl⟩
        apply NDr.pure
        ·refine NCall.call (c2) rfl rfl ?_
         exact ⟨rfl, rfl⟩
        apply NDr.pure
        ·refine ND.yes (by omega) ?_
         exact ⟨rfl, rfl⟩
        refine NDr.w _ ?_
        refine NP.mk (by kernel_rfl) ?_
        refine NP.mk (by kernel_rfl) ?_
        apply NDr.any
        ·intro H'
         exact ⟨rfl, rfl⟩
        refine NDr.w _ ?_
        apply NDr.any
        ·intro H'
         exact ⟨rfl, rfl⟩
        refine NDr.w _ ?_
        apply NDr.pure
        ·refine NW.w ?_
         exact ⟨rfl, rfl⟩
        apply NDr.any
        ·intro H'
         exact ⟨rfl, rfl⟩
        refine NDr.w _ ?_
        apply NDr.pure
        ·refine NW.w ?_
         exact ⟨rfl, rfl⟩
        apply NDr.rd [0]
        ·intro fH TH
         refine NP.mk (by (simp only [zLm, zLa, zLr, zLc, zLn, zLt, zLd]; omega)) ?_
         rw [(eq0)]
         exact ⟨rfl, rfl⟩
        apply NDr.rd [0]
        ·intro fH TH
         refine NG.map0N (by omega) ?_
         exact ⟨rfl, rfl⟩
        apply NDr.any
        ·intro H'
         exact ⟨rfl, rfl⟩
        refine NDr.w _ ?_
        apply NDr.rd [0]
        ·intro fH TH
         refine NP.mk (by (simp only [zLm, zLa, zLr, zLc, zLn, zLt, zLd]; omega)) ?_
         exact ⟨rfl, rfl⟩
        apply NDr.rd [0]
        ·intro fH TH
         refine NG.map0N (by omega) ?_
         exact ⟨rfl, rfl⟩
        apply NDr.rd [0]
        ·intro fH TH
         refine NP.mk (by (simp only [zLm, zLa, zLr, zLc, zLn, zLt, zLd]; omega)) ?_
         exact ⟨rfl, rfl⟩
        apply NDr.efw [0]
        ·refine NG.map0N (by omega) ?_
         exact ⟨rfl, rfl⟩
        ·repeat (first | exact True.intro | refine ⟨by first | exact rfl | exact True.intro, ?_⟩)
        apply NDr.efw []
        ·refine NP.mk (by (simp; omega)) ?_
         rw [(eq0)]
         exact ⟨rfl, rfl⟩
        ·repeat (first | exact True.intro | refine ⟨by first | exact rfl | exact True.intro, ?_⟩)
        apply NDr.efw [0]
        ·refine NG.get (by simp; omega) ?_
         exact ⟨rfl, rfl⟩
        ·repeat (first | exact True.intro | refine ⟨by first | exact rfl | exact True.intro, ?_⟩)
        refine NP.mk (by kernel_rfl) ?_
        refine NW.w ?_
        exact Canon.mk [] rfl ⟨q, by omega, q, swpL e (q + 1) q z1 z0, rfl, by omega, (swpL_len z1 z0).trans hel, by rw [← hes, shiftDown, y1, y0, t2, if_neg (by simp), swpL_eq z1 z0], by rw [← swpL_row z1 z0, Nat.zero_add, Nat.zero_add]; rfl, by rw [show (((q + 1 : Nat) : Int) - 1) = (q : Int) by omega]; rfl⟩
       | false =>
        have q2 := ltF t2
        have hD := hD e.toArray (by rw [shiftDown, y1, y0, t2, if_pos (by simp)])
        clear y1 y0
        by_cases hup : b - (k + 1) ≥ 2
        ·refine ND.yes (by omega) ?_
         refine NP.mk (by kernel_rfl) ?_
         refine NDr.w _ ?_
         apply NDr.any
         ·intro H'
          exact ⟨rfl, rfl⟩
         refine NDr.w _ ?_
         apply NDr.rd [0]
         ·intro fH TH
          refine NP.mk (by (simp only [zLm, zLa, zLr, zLc, zLn, zLt, zLd]; omega)) ?_
          exact ⟨rfl, rfl⟩
         apply NDr.rd [0]
         ·intro fH TH
          refine NG.map0N (by omega) ?_
          exact ⟨rfl, rfl⟩
         apply NDr.any
         ·intro H'
          exact ⟨rfl, rfl⟩
         refine NDr.w _ ?_
         apply NDr.pure
         ·refine NW.w ?_
          exact ⟨rfl, rfl⟩
         apply NDr.rd [0]
         ·intro fH TH
          refine NP.mk (by (simp only [zLm, zLa, zLr, zLc, zLn, zLt, zLd]; omega)) ?_
          rw [(eq0)]
          exact ⟨rfl, rfl⟩
         apply NDr.rd [0]
         ·intro fH TH
          refine NG.map0N (by omega) ?_
          exact ⟨rfl, rfl⟩
         apply NDr.pure
         ·refine NCall.call (c2) rfl rfl ?_
          exact ⟨rfl, rfl⟩
         apply NDr.pure
         ·refine ND.no (by omega) ?_
          exact ⟨rfl, rfl⟩
         refine NDr.w _ ?_
         refine NP.mk (by kernel_rfl) ?_
         refine NW.w ?_
         refine ND.yes (by omega) ?_
         refine NW.w ?_
         have e12 : ((k + 1 : Nat) : Int) + 1 = ((k + 2 : Nat) : Int) := by omega
         refine NLoop.mk [] [0, 1, 2, 3, 9, 10, 12] (fun m vs H => ∃ (j : Nat) (f : List Item), k + 2 ≤ j ∧ j ≤ b ∧ m = b - j ∧ f.length = l.length ∧ shiftUp ltI b j f.toArray = shiftUp ltI b (k + 2) e.toArray ∧ H = [.row .vrow (.agg 8) (f.map itemA)] ∧ vs = [.own 0 0 l.length, i64 a, i64 b, .fn Nm.item_compare [], i64 (k + 1 : Nat), i64 (5 - (s + 1) : Nat), i64 j]) rfl ?_ ?_
         ·exact Canon.mk [] rfl ⟨_, k + 2, e, Nat.le_refl _, by omega, rfl, hel, rfl, rfl, rfl⟩
         rintro m vs H ⟨j, f, hj, hjb, rfl, hfl, hf, rfl, rfl⟩
         obtain ⟨q, rfl⟩ : ∃ q, j = q + 1 := ⟨j - 1, by omega⟩
         have eq : Int.toNat (((q + 1 : Nat) : Int) - 1) = q := by omega
         have hU : ∀ g, shiftUp ltI b (q + 1) f.toArray = g → fixUp ltI b (k + 1) e.toArray = g := fun g hg => by unfold fixUp; rw [if_pos hup, ← hf, hg]
         by_cases hqb : q + 1 < b
         ·have z1 : q + 1 < f.length := by omega
          have z0 : q < f.length := by omega
          have y1 := getA z1
          have y0 := getA z0
          have c2 := item_compare_walk f[q + 1] f[q]
          cases t2 : ltI f[q + 1] f[q] with
          | true =>
           have q2 := ltT t2
           refine ND.yes (by omega) ?_
           refine NP.mk (by kernel_rfl) ?_
           refine NDr.w _ ?_
           apply NDr.any
           ·intro H'
            exact ⟨rfl, rfl⟩
           refine NDr.w _ ?_
           apply NDr.rd [0]
           ·intro fH TH
            refine NP.mk (by (simp only [zLm, zLa, zLr, zLc, zLn, zLt, zLd]; omega)) ?_
            exact ⟨rfl, rfl⟩
           apply NDr.rd [0]
           ·intro fH TH
            refine NG.map0N (by omega) ?_
            exact ⟨rfl, rfl⟩
           apply NDr.any
           ·intro H'
            exact ⟨rfl, rfl⟩
           refine NDr.w _ ?_
           apply NDr.pure
           ·refine NW.w ?_
            exact ⟨rfl, rfl⟩
           apply NDr.rd [0]
           ·intro fH TH
            refine NP.mk (by (simp only [zLm, zLa, zLr, zLc, zLn, zLt, zLd]; omega)) ?_
            rw [(eq)]
            exact ⟨rfl, rfl⟩
           apply NDr.rd [0]
           ·intro fH TH
            refine NG.map0N (by omega) ?_
            exact ⟨rfl, rfl⟩
           apply NDr.pure
           ·refine NCall.call (c2) rfl rfl ?_
            exact ⟨rfl, rfl⟩
           apply NDr.pure
           ·refine ND.yes (by omega) ?_
            exact ⟨rfl, rfl⟩
           refine NDr.w _ ?_
           refine NP.mk (by kernel_rfl) ?_
           refine NP.mk (by kernel_rfl) ?_
           apply NDr.any
           ·intro H'
            exact ⟨rfl, rfl⟩
           refine NDr.w _ ?_
           apply NDr.any
           ·intro H'
            exact ⟨rfl, rfl⟩
           refine NDr.w _ ?_
           apply NDr.pure
           ·refine NW.w ?_
            exact ⟨rfl, rfl⟩
           apply NDr.any
           ·intro H'
            exact ⟨rfl, rfl⟩
           refine NDr.w _ ?_
           apply NDr.pure
           ·refine NW.w ?_
            exact ⟨rfl, rfl⟩
           apply NDr.rd [0]
           ·intro fH TH
            refine NP.mk (by (simp only [zLm, zLa, zLr, zLc, zLn, zLt, zLd]; omega)) ?_
            rw [(eq)]
            exact ⟨rfl, rfl⟩
           apply NDr.rd [0]
           ·intro fH TH
            refine NG.map0N (by omega) ?_
            exact ⟨rfl, rfl⟩
           apply NDr.any
           ·intro H'
            exact ⟨rfl, rfl⟩
           refine NDr.w _ ?_
           apply NDr.rd [0]
           ·intro fH TH
            refine NP.mk (by (simp only [zLm, zLa, zLr, zLc, zLn, zLt, zLd]; omega)) ?_
            exact ⟨rfl, rfl⟩
           apply NDr.rd [0]
           ·intro fH TH
            refine NG.map0N (by omega) ?_
            exact ⟨rfl, rfl⟩
           apply NDr.rd [0]
           ·intro fH TH
            refine NP.mk (by (simp only [zLm, zLa, zLr, zLc, zLn, zLt, zLd]; omega)) ?_
            exact ⟨rfl, rfl⟩
           apply NDr.efw [0]
           ·refine NG.map0N (by omega) ?_
            exact ⟨rfl, rfl⟩
           ·repeat (first | exact True.intro | refine ⟨by first | exact rfl | exact True.intro, ?_⟩)
           apply NDr.efw []
           ·refine NP.mk (by (simp; omega)) ?_
            rw [(eq)]
            exact ⟨rfl, rfl⟩
           ·repeat (first | exact True.intro | refine ⟨by first | exact rfl | exact True.intro, ?_⟩)
           apply NDr.efw [0]
           ·refine NG.get (by simp; omega) ?_
            exact ⟨rfl, rfl⟩
           ·repeat (first | exact True.intro | refine ⟨by first | exact rfl | exact True.intro, ?_⟩)
           refine NP.mk (by kernel_rfl) ?_
           refine NW.w ?_
           exact Canon.mk [] rfl ⟨b - (q + 1 + 1), by omega, q + 1 + 1, swpL f (q + 1) q z1 z0, by omega, by omega, rfl, (swpL_len z1 z0).trans hfl, by rw [← hf, shiftUp.eq_def (j := q + 1), if_pos hqb, y1, Nat.add_sub_cancel, y0, t2, if_neg (by simp), swpL_eq z1 z0], by rw [← swpL_row z1 z0, Nat.zero_add, Nat.zero_add]; rfl, rfl⟩
          | false =>
           have q2 := ltF t2
           have hU := hU f.toArray (by rw [shiftUp.eq_def, if_pos hqb, y1, Nat.add_sub_cancel, y0, t2, if_pos (by simp)])
           refine ND.yes (by omega) ?_
           refine NP.mk (by kernel_rfl) ?_
           refine NDr.w _ ?_
           apply NDr.any
           ·intro H'
            exact ⟨rfl, rfl⟩
           refine NDr.w _ ?_
           apply NDr.rd [0]
           ·intro fH TH
            refine NP.mk (by (simp only [zLm, zLa, zLr, zLc, zLn, zLt, zLd]; omega)) ?_
            exact ⟨rfl, rfl⟩
           apply NDr.rd [0]
           ·intro fH TH
            refine NG.map0N (by omega) ?_
            exact ⟨rfl, rfl⟩
           apply NDr.any
           ·intro H'
            exact ⟨rfl, rfl⟩
           refine NDr.w _ ?_
           apply NDr.pure
           ·refine NW.w ?_
            exact ⟨rfl, rfl⟩
           apply NDr.rd [0]
           ·intro fH TH
            refine NP.mk (by (simp only [zLm, zLa, zLr, zLc, zLn, zLt, zLd]; omega)) ?_
            rw [(eq)]
            exact ⟨rfl, rfl⟩
           apply NDr.rd [0]
           ·intro fH TH
            refine NG.map0N (by omega) ?_
            exact ⟨rfl, rfl⟩
           apply NDr.pure
           ·refine NCall.call (c2) rfl rfl ?_
            exact ⟨rfl, rfl⟩
           apply NDr.pure
           ·refine ND.no (by omega) ?_
            exact ⟨rfl, rfl⟩
           refine NDr.w _ ?_
           refine NP.mk (by kernel_rfl) ?_
           refine NW.w ?_
           exact Canon.mk [] rfl ⟨s, by omega, s, k + 1, f, by omega, rfl, by omega, by omega, hfl, by rw [hD, hU], rfl, by rw [e5]; rfl⟩
         ·have hU := hU f.toArray (by rw [shiftUp.eq_def, if_neg hqb])
          refine ND.no (by omega) ?_
          refine NW.w ?_
          exact Canon.mk [] rfl ⟨s, by omega, s, k + 1, f, by omega, rfl, by omega, by omega, hfl, by rw [hD, hU], rfl, by rw [e5]; rfl⟩
        ·have hU : fixUp ltI b (k + 1) e.toArray = e.toArray := by unfold fixUp; rw [if_neg hup]
         refine ND.yes (by omega) ?_
         refine NP.mk (by kernel_rfl) ?_
         refine NDr.w _ ?_
         apply NDr.any
         ·intro H'
          exact ⟨rfl, rfl⟩
         refine NDr.w _ ?_
         apply NDr.rd [0]
         ·intro fH TH
          refine NP.mk (by (simp only [zLm, zLa, zLr, zLc, zLn, zLt, zLd]; omega)) ?_
          exact ⟨rfl, rfl⟩
         apply NDr.rd [0]
         ·intro fH TH
          refine NG.map0N (by omega) ?_
          exact ⟨rfl, rfl⟩
         apply NDr.any
         ·intro H'
          exact ⟨rfl, rfl⟩
         refine NDr.w _ ?_
         apply NDr.pure
         ·refine NW.w ?_
          exact ⟨rfl, rfl⟩
         apply NDr.rd [0]
         ·intro fH TH
          refine NP.mk (by (simp only [zLm, zLa, zLr, zLc, zLn, zLt, zLd]; omega)) ?_
          rw [(eq0)]
          exact ⟨rfl, rfl⟩
         apply NDr.rd [0]
         ·intro fH TH
          refine NG.map0N (by omega) ?_
          exact ⟨rfl, rfl⟩
         apply NDr.pure
         ·refine NCall.call (c2) rfl rfl ?_
          exact ⟨rfl, rfl⟩
         apply NDr.pure
         ·refine ND.no (by omega) ?_
          exact ⟨rfl, rfl⟩
         refine NDr.w _ ?_
         refine NP.mk (by kernel_rfl) ?_
         refine NW.w ?_
         refine ND.no (by omega) ?_
         refine NW.w ?_
         exact Canon.mk [] rfl ⟨s, by omega, s, k + 1, e, by omega, rfl, by omega, by omega, hel, by rw [hD, hU], rfl, by rw [e5]; rfl⟩
     ·have hD : fixDown ltI a (k + 1) (swpL d (k + 1) k k1 k0).toArray = (swpL d (k + 1) k k1 k0).toArray := by unfold fixDown; rw [if_neg hdn]
      by_cases hup : b - (k + 1) ≥ 2
      ·refine NP.mk (by kernel_rfl) ?_
       refine NDr.w _ ?_
       refine NDr.w _ ?_
       apply NDr.pure
       ·refine ND.yes (by omega) ?_
        exact ⟨rfl, rfl⟩
       refine NDr.w _ ?_
       refine NDr.w _ ?_
       apply NDr.any
       ·intro H'
        exact ⟨rfl, rfl⟩
       refine NDr.w _ ?_
       apply NDr.rd [0]
       ·intro fH TH
        refine NP.mk (by (simp only [zLm, zLa, zLr, zLc, zLn, zLt, zLd]; omega)) ?_
        exact ⟨rfl, rfl⟩
       apply NDr.rd [0]
       ·intro fH TH
        refine NG.map0N (by omega) ?_
        exact ⟨rfl, rfl⟩
       apply NDr.any
       ·intro H'
        exact ⟨rfl, rfl⟩
       refine NDr.w _ ?_
       apply NDr.pure
       ·refine NW.w ?_
        exact ⟨rfl, rfl⟩
       apply NDr.rd [0]
       ·intro fH TH
        refine NP.mk (by (simp only [zLm, zLa, zLr, zLc, zLn, zLt, zLd]; omega)) ?_
        rw [(ek)]
        exact ⟨rfl, rfl⟩
       apply NDr.rd [0]
       ·intro fH TH
        refine NG.map0N (by omega) ?_
        exact ⟨rfl, rfl⟩
       apply NDr.pure
       ·refine NCall.call (c1) rfl rfl ?_
        exact ⟨rfl, rfl⟩
       apply NDr.pure
       ·refine ND.yes (by omega) ?_
        exact ⟨rfl, rfl⟩
       refine NDr.w _ ?_
       refine NDr.w _ ?_
       refine NP.mk (by kernel_rfl) ?_
       refine ND.no (by omega) ?_
       refine NW.w ?_
       refine ND.no (by omega) ?_
       refine NP.mk (by kernel_rfl) ?_
       apply NDr.any
       ·intro H'
        exact ⟨rfl, rfl⟩
       refine NDr.w _ ?_
       apply NDr.any
       ·intro H'
        exact ⟨rfl, rfl⟩
       refine NDr.w _ ?_
       apply NDr.pure
       ·refine NW.w ?_
        exact ⟨rfl, rfl⟩
       apply NDr.any
       ·intro H'
        exact ⟨rfl, rfl⟩
       refine NDr.w _ ?_
       apply NDr.pure
       ·refine NW.w ?_
        exact ⟨rfl, rfl⟩
       apply NDr.rd [0]
       ·intro fH TH
        refine NP.mk (by (simp only [zLm, zLa, zLr, zLc, zLn, zLt, zLd]; omega)) ?_
        rw [(ek)]
        exact ⟨rfl, rfl⟩
       apply NDr.rd [0]
       ·intro fH TH
        refine NG.map0N (by omega) ?_
        exact ⟨rfl, rfl⟩
       apply NDr.any
       ·intro H'
        exact ⟨rfl, rfl⟩
       refine NDr.w _ ?_
       apply NDr.rd [0]
       ·intro fH TH
        refine NP.mk (by (simp only [zLm, zLa, zLr, zLc, zLn, zLt, zLd]; omega)) ?_
        exact ⟨rfl, rfl⟩
       apply NDr.rd [0]
       ·intro fH TH
        refine NG.map0N (by omega) ?_
        exact ⟨rfl, rfl⟩
       apply NDr.rd [0]
       ·intro fH TH
        refine NP.mk (by (simp only [zLm, zLa, zLr, zLc, zLn, zLt, zLd]; omega)) ?_
        exact ⟨rfl, rfl⟩
       apply NDr.efw [0]
       ·refine NG.map0N (by omega) ?_
        exact ⟨rfl, rfl⟩
       ·repeat (first | exact True.intro | refine ⟨by first | exact rfl | exact True.intro, ?_⟩)
       apply NDr.efw []
       ·refine NP.mk (by (simp; omega)) ?_
        rw [(ek)]
        exact ⟨rfl, rfl⟩
       ·repeat (first | exact True.intro | refine ⟨by first | exact rfl | exact True.intro, ?_⟩)
       apply NDr.efw [0]
       ·refine NG.get (by simp; omega) ?_
        exact ⟨rfl, rfl⟩
       ·repeat (first | exact True.intro | refine ⟨by first | exact rfl | exact True.intro, ?_⟩)
       refine NP.mk (by kernel_rfl) ?_
       refine NW.w ?_
       refine ND.no (by omega) ?_
       refine NW.w ?_
       refine ND.yes (by omega) ?_
       refine NW.w ?_
       have e12 : ((k + 1 : Nat) : Int) + 1 = ((k + 2 : Nat) : Int) := by omega
       refine NLoop.mk [] [0, 1, 2, 3, 9, 10, 12] (fun m vs H => ∃ (j : Nat) (f : List Item), k + 2 ≤ j ∧ j ≤ b ∧ m = b - j ∧ f.length = l.length ∧ shiftUp ltI b j f.toArray = shiftUp ltI b (k + 2) (swpL d (k + 1) k k1 k0).toArray ∧ H = [.row .vrow (.agg 8) (f.map itemA)] ∧ vs = [.own 0 0 l.length, i64 a, i64 b, .fn Nm.item_compare [], i64 (k + 1 : Nat), i64 (5 - (s + 1) : Nat), i64 j]) rfl ?_ ?_
       ·exact Canon.mk [] rfl ⟨_, k + 2, (swpL d (k + 1) k k1 k0), Nat.le_refl _, by omega, rfl, ((swpL_len k1 k0).trans hdl), rfl, by rw [← swpL_row k1 k0, Nat.zero_add, Nat.zero_add]; rfl, rfl⟩
       rintro m vs H ⟨j, f, hj, hjb, rfl, hfl, hf, rfl, rfl⟩
       obtain ⟨q, rfl⟩ : ∃ q, j = q + 1 := ⟨j - 1, by omega⟩
       have eq : Int.toNat (((q + 1 : Nat) : Int) - 1) = q := by omega
       have hU : ∀ g, shiftUp ltI b (q + 1) f.toArray = g → fixUp ltI b (k + 1) (swpL d (k + 1) k k1 k0).toArray = g := fun g hg => by unfold fixUp; rw [if_pos hup, ← hf, hg]
       by_cases hqb : q + 1 < b
       ·have z1 : q + 1 < f.length := by omega
        have z0 : q < f.length := by omega
        have y1 := getA z1
        have y0 := getA z0
        have c2 := item_compare_walk f[q + 1] f[q]
        cases t2 : ltI f[q + 1] f[q] with
        | true =>
         have q2 := ltT t2
         refine ND.yes (by omega) ?_
         refine NP.mk (by kernel_rfl) ?_
         refine NDr.w _ ?_
         apply NDr.any
         ·intro H'
          exact ⟨rfl, rfl⟩
         refine NDr.w _ ?_
         apply NDr.rd [0]
         ·intro fH TH
          refine NP.mk (by (simp only [zLm, zLa, zLr, zLc, zLn, zLt, zLd]; omega)) ?_
          exact ⟨rfl, rfl⟩
         apply NDr.rd [0]
         ·intro fH TH
          refine NG.map0N (by omega) ?_
          exact ⟨rfl, rfl⟩
         apply NDr.any
         ·intro H'
          exact ⟨rfl, rfl⟩
         refine NDr.w _ ?_
         apply NDr.pure
         ·refine NW.w ?_
          exact ⟨rfl, rfl⟩
         apply NDr.rd [0]
         ·intro fH TH
          refine NP.mk (by (simp only [zLm, zLa, zLr, zLc, zLn, zLt, zLd]; omega)) ?_
          rw [(eq)]
          exact ⟨rfl, rfl⟩
         apply NDr.rd [0]
         ·intro fH TH
          refine NG.map0N (by omega) ?_
          exact ⟨rfl, rfl⟩
         apply NDr.pure
         ·refine NCall.call (c2) rfl rfl ?_
          exact ⟨rfl, rfl⟩
         apply NDr.pure
         ·refine ND.yes (by omega) ?_
          exact ⟨rfl, rfl⟩
         refine NDr.w _ ?_
         refine NP.mk (by kernel_rfl) ?_
         refine NP.mk (by kernel_rfl) ?_
         apply NDr.any
         ·intro H'
          exact ⟨rfl, rfl⟩
         refine NDr.w _ ?_
         apply NDr.any
         ·intro H'
          exact ⟨rfl, rfl⟩
         refine NDr.w _ ?_
         apply NDr.pure
         ·refine NW.w ?_
          exact ⟨rfl, rfl⟩
         apply NDr.any
         ·intro H'
          exact ⟨rfl, rfl⟩
         refine NDr.w _ ?_
         apply NDr.pure
         ·refine NW.w ?_
          exact ⟨rfl, rfl⟩
         apply NDr.rd [0]
         ·intro fH TH
          refine NP.mk (by (simp only [zLm, zLa, zLr, zLc, zLn, zLt, zLd]; omega)) ?_
          rw [(eq)]
          exact ⟨rfl, rfl⟩
         apply NDr.rd [0]
         ·intro fH TH
          refine NG.map0N (by omega) ?_
          exact ⟨rfl, rfl⟩
         apply NDr.any
         ·intro H'
          exact ⟨rfl, rfl⟩
         refine NDr.w _ ?_
         apply NDr.rd [0]
         ·intro fH TH
          refine NP.mk (by (simp only [zLm, zLa, zLr, zLc, zLn, zLt, zLd]; omega)) ?_
          exact ⟨rfl, rfl⟩
         apply NDr.rd [0]
         ·intro fH TH
          refine NG.map0N (by omega) ?_
          exact ⟨rfl, rfl⟩
         apply NDr.rd [0]
         ·intro fH TH
          refine NP.mk (by (simp only [zLm, zLa, zLr, zLc, zLn, zLt, zLd]; omega)) ?_
          exact ⟨rfl, rfl⟩
         apply NDr.efw [0]
         ·refine NG.map0N (by omega) ?_
          exact ⟨rfl, rfl⟩
         ·repeat (first | exact True.intro | refine ⟨by first | exact rfl | exact True.intro, ?_⟩)
         apply NDr.efw []
         ·refine NP.mk (by (simp; omega)) ?_
          rw [(eq)]
          exact ⟨rfl, rfl⟩
         ·repeat (first | exact True.intro | refine ⟨by first | exact rfl | exact True.intro, ?_⟩)
         apply NDr.efw [0]
         ·refine NG.get (by simp; omega) ?_
          exact ⟨rfl, rfl⟩
         ·repeat (first | exact True.intro | refine ⟨by first | exact rfl | exact True.intro, ?_⟩)
         refine NP.mk (by kernel_rfl) ?_
         refine NW.w ?_
         exact Canon.mk [] rfl ⟨b - (q + 1 + 1), by omega, q + 1 + 1, swpL f (q + 1) q z1 z0, by omega, by omega, rfl, (swpL_len z1 z0).trans hfl, by rw [← hf, shiftUp.eq_def (j := q + 1), if_pos hqb, y1, Nat.add_sub_cancel, y0, t2, if_neg (by simp), swpL_eq z1 z0], by rw [← swpL_row z1 z0, Nat.zero_add, Nat.zero_add]; rfl, rfl⟩
        | false =>
         have q2 := ltF t2
         have hU := hU f.toArray (by rw [shiftUp.eq_def, if_pos hqb, y1, Nat.add_sub_cancel, y0, t2, if_pos (by simp)])
         refine ND.yes (by omega) ?_
         refine NP.mk (by kernel_rfl) ?_
         refine NDr.w _ ?_
         apply NDr.any
         ·intro H'
          exact ⟨rfl, rfl⟩
         refine NDr.w _ ?_
         apply NDr.rd [0]
         ·intro fH TH
          refine NP.mk (by (simp only [zLm, zLa, zLr, zLc, zLn, zLt, zLd]; omega)) ?_
          exact ⟨rfl, rfl⟩
         apply NDr.rd [0]
         ·intro fH TH
          refine NG.map0N (by omega) ?_
          exact ⟨rfl, rfl⟩
         apply NDr.any
         ·intro H'
          exact ⟨rfl, rfl⟩
         refine NDr.w _ ?_
         apply NDr.pure
         ·refine NW.w ?_
          exact ⟨rfl, rfl⟩
         apply NDr.rd [0]
         ·intro fH TH
          refine NP.mk (by (simp only [zLm, zLa, zLr, zLc, zLn, zLt, zLd]; omega)) ?_
          rw [(eq)]
          exact ⟨rfl, rfl⟩
         apply NDr.rd [0]
         ·intro fH TH
          refine NG.map0N (by omega) ?_
          exact ⟨rfl, rfl⟩
         apply NDr.pure
         ·refine NCall.call (c2) rfl rfl ?_
          exact ⟨rfl, rfl⟩
         apply NDr.pure
         ·refine ND.no (by omega) ?_
          exact ⟨rfl, rfl⟩
         refine NDr.w _ ?_
         refine NP.mk (by kernel_rfl) ?_
         refine NW.w ?_
         exact Canon.mk [] rfl ⟨s, by omega, s, k + 1, f, by omega, rfl, by omega, by omega, hfl, by rw [hD, hU], rfl, by rw [e5]; rfl⟩
       ·have hU := hU f.toArray (by rw [shiftUp.eq_def, if_neg hqb])
        refine ND.no (by omega) ?_
        refine NW.w ?_
        exact Canon.mk [] rfl ⟨s, by omega, s, k + 1, f, by omega, rfl, by omega, by omega, hfl, by rw [hD, hU], rfl, by rw [e5]; rfl⟩
      ·have hU : fixUp ltI b (k + 1) (swpL d (k + 1) k k1 k0).toArray = (swpL d (k + 1) k k1 k0).toArray := by unfold fixUp; rw [if_neg hup]
       exfalso; omega
  ·have hkb' : k + 1 = b := by omega
   have hst : scanSorted ltI d.toArray b i = b := by
    rw [← hu, scanSorted_stop (.inl hkb), hkb']
   rw [hst, if_pos rfl]
   refine NP.mk (by kernel_rfl) ?_
   refine NDr.w _ ?_
   refine NDr.w _ ?_
   apply NDr.pure
   ·refine ND.no (by omega) ?_
    exact ⟨rfl, rfl⟩
   refine NDr.w _ ?_
   refine NDr.w _ ?_
   refine NP.mk (by kernel_rfl) ?_
   refine ND.yes (by omega) ?_
   exact NRet.mk [] rfl ⟨.refl _, rfl⟩
end Go.Bv
namespace Go.Bv
set_option linter.unusedSimpArgs false
set_option linter.unusedVariables false
set_option maxHeartbeats 4000000
set_option maxRecDepth 20000
open Go Go.Proofs
open Go.Sort (median medianAdjacent choosePivot Hint)
theorem choosePivot_walk (l : List Item) (a b : Nat) (hab : a < b) (hb : b ≤ l.length) (hl : l.length ≤ 2 ^ 39) : ACalls Tryz.prog Nm.slices_choosePivotCmpFunc_api_Item [.own 0 0 l.length, i64 a, i64 b, .fn Nm.item_compare []]
  [.row .vrow (.agg 8) (l.map itemA)] (.tup [i64 (choosePivot ltI l.toArray a b).1, i64 (Go.Sort.hintCode (choosePivot ltI l.toArray a b).2)]) [.row .vrow (.agg 8) (l.map itemA)] := by
 refine ACalls_of tab (dr_snd tab mixed) Nm.slices_choosePivotCmpFunc_api_Item_h rfl (by kernel_rfl) (Nat.le_of_ble_eq_true rfl) rfl ?_
 rw [Go.Sort.choosePivot_eq]
 have e4 : ((b : Int) - (a : Int)).tdiv 4 = (((b - a) / 4 : Nat) : Int) := by
  rw [show (b : Int) - (a : Int) = ((b - a : Nat) : Int) by omega]
  exact (Int.ofNat_tdiv (b - a) 4).symm
 obtain ⟨q, hq⟩ : ∃ q, q = (b - a) / 4 := ⟨_, rfl⟩
 rw [← hq] at e4
 have hq1 : 4 * q ≤ b - a := by omega
 have hq2 : b - a < 4 * q + 4 := by omega
 have fin : ∀ s : Nat, Go.Sort.hintCode (Go.Sort.hintOf s) = if s = 0 then 1 else if s = 12 then 2 else 0 := fun s => by
  unfold Go.Sort.hintOf
  split
  ·rfl
  ·split <;> rfl
 rw [fin]
 unfold Go.Sort.rawPivot
 rw [← hq]
 clear hq fin
 by_cases h8 : b - a ≥ 8
 ·rw [if_pos h8]
  by_cases h50 : b - a ≥ 50
  ·rw [if_pos h50]
   have w1 := medianAdj_walk l (a + q * 1) 0 (by omega) (by omega) hl (by omega)
   have m1 := Go.Sort.medianAdjacent_mem ltI l.toArray (a + q * 1) 0
   have n1 := Go.Sort.medianAdjacent_count ltI l.toArray (a + q * 1) 0
   generalize medianAdjacent ltI l.toArray (a + q * 1) 0 = r1 at *
   have p1 : r1.1 < l.length := by omega
   clear m1
   have w2 := medianAdj_walk l (a + q * 2) r1.2 (by omega) (by omega) hl (by omega)
   have m2 := Go.Sort.medianAdjacent_mem ltI l.toArray (a + q * 2) r1.2
   have n2 := Go.Sort.medianAdjacent_count ltI l.toArray (a + q * 2) r1.2
   generalize medianAdjacent ltI l.toArray (a + q * 2) r1.2 = r2 at *
   have p2 : r2.1 < l.length := by omega
   clear m2
   have w3 := medianAdj_walk l (a + q * 3) r2.2 (by omega) (by omega) hl (by omega)
   have m3 := Go.Sort.medianAdjacent_mem ltI l.toArray (a + q * 3) r2.2
   have n3 := Go.Sort.medianAdjacent_count ltI l.toArray (a + q * 3) r2.2
   generalize medianAdjacent ltI l.toArray (a + q * 3) r2.2 = r3 at *
   have p3 : r3.1 < l.length := by omega
   clear m3
   have w4 := median_walk l r1.1 r2.1 r3.1 r3.2 (by omega) (by omega) (by omega) hl (by omega)
   have n4 := Go.Sort.median_count ltI l.toArray r1.1 r2.1 r3.1 r3.2
   generalize median ltI l.toArray r1.1 r2.1 r3.1 r3.2 = r4 at *
   rw [show (((a + q * 1 : Nat)) : Int) = (a : Int) + (q : Int) * 1 by omega] at w1
   rw [show (((a + q * 2 : Nat)) : Int) = (a : Int) + (q : Int) * 2 by omega] at w2
   rw [show (((a + q * 3 : Nat)) : Int) = (a : Int) + (q : Int) * 3 by omega] at w3
   by_cases z0 : r4.2 = 0
   ·rw [if_pos z0]
    refine NW.w ?_
    refine NP.mk (by omega) ?_
    rw [(e4)]
    refine NW.w ?_
    refine NW.w ?_
    refine NW.w ?_
    refine NP.mk (by omega) ?_
    rw [(e4)]
    refine NW.w ?_
    refine NW.w ?_
    refine NW.w ?_
    refine NP.mk (by omega) ?_
    rw [(e4)]
    refine NW.w ?_
    refine NW.w ?_
    refine NW.w ?_
    refine ND.yes (by omega) ?_
    refine ND.yes (by omega) ?_
    refine NCall.atA (w1) ?_
    refine NCall.atA (w2) ?_
    refine NCall.atA (w3) ?_
    refine NCall.atA (w4) ?_
    refine ND.yes (by omega) ?_
    exact NRet.mk [] rfl ⟨.refl _, rfl⟩
   ·rw [if_neg z0]
    by_cases z12 : r4.2 = 12
    ·rw [if_pos z12]
     refine NW.w ?_
     refine NP.mk (by omega) ?_
     rw [(e4)]
     refine NW.w ?_
     refine NW.w ?_
     refine NW.w ?_
     refine NP.mk (by omega) ?_
     rw [(e4)]
     refine NW.w ?_
     refine NW.w ?_
     refine NW.w ?_
     refine NP.mk (by omega) ?_
     rw [(e4)]
     refine NW.w ?_
     refine NW.w ?_
     refine NW.w ?_
     refine ND.yes (by omega) ?_
     refine ND.yes (by omega) ?_
     refine NCall.atA (w1) ?_
     refine NCall.atA (w2) ?_
     refine NCall.atA (w3) ?_
     refine NCall.atA (w4) ?_
     refine ND.no (by omega) ?_
     refine ND.yes (by omega) ?_
     exact NRet.mk [] rfl ⟨.refl _, rfl⟩
    ·rw [if_neg z12]
     refine NW.w ?_
     refine NP.mk (by omega) ?_
     rw [(e4)]
     refine NW.w ?_
     refine NW.w ?_
     refine NW.w ?_
     refine NP.mk (by omega) ?_
     rw [(e4)]
     refine NW.w ?_
     refine NW.w ?_
     refine NW.w ?_
     refine NP.mk (by omega) ?_
     rw [(e4)]
     refine NW.w ?_
     refine NW.w ?_
     refine NW.w ?_
     refine ND.yes (by omega) ?_
     refine ND.yes (by omega) ?_
     refine NCall.atA (w1) ?_
     refine NCall.atA (w2) ?_
     refine NCall.atA (w3) ?_
     refine NCall.atA (w4) ?_
     refine ND.no (by omega) ?_
     refine ND.no (by omega) ?_
     exact NRet.mk [] rfl ⟨.refl _, rfl⟩
  ·rw [if_neg h50]
   have w4 := median_walk l (a + q * 1) (a + q * 2) (a + q * 3) 0 (by omega) (by omega) (by omega) hl (by omega)
   generalize median ltI l.toArray (a + q * 1) (a + q * 2) (a + q * 3) 0 = r4 at *
   rw [show (((a + q * 1 : Nat)) : Int) = (a : Int) + (q : Int) * 1 by omega, show (((a + q * 2 : Nat)) : Int) = (a : Int) + (q : Int) * 2 by omega, show (((a + q * 3 : Nat)) : Int) = (a : Int) + (q : Int) * 3 by omega] at w4
   by_cases z0 : r4.2 = 0
   ·rw [if_pos z0]
    refine NW.w ?_
    refine NP.mk (by omega) ?_
    rw [(e4)]
    refine NW.w ?_
    refine NW.w ?_
    refine NW.w ?_
    refine NP.mk (by omega) ?_
    rw [(e4)]
    refine NW.w ?_
    refine NW.w ?_
    refine NW.w ?_
    refine NP.mk (by omega) ?_
    rw [(e4)]
    refine NW.w ?_
    refine NW.w ?_
    refine NW.w ?_
    refine ND.yes (by omega) ?_
    refine ND.no (by omega) ?_
    refine NCall.atA (w4) ?_
    refine ND.yes (by omega) ?_
    exact NRet.mk [] rfl ⟨.refl _, rfl⟩
   ·rw [if_neg z0]
    by_cases z12 : r4.2 = 12
    ·rw [if_pos z12]
     refine NW.w ?_
     refine NP.mk (by omega) ?_
     rw [(e4)]
     refine NW.w ?_
     refine NW.w ?_
     refine NW.w ?_
     refine NP.mk (by omega) ?_
     rw [(e4)]
     refine NW.w ?_
     refine NW.w ?_
     refine NW.w ?_
     refine NP.mk (by omega) ?_
     rw [(e4)]
     refine NW.w ?_
     refine NW.w ?_
     refine NW.w ?_
     refine ND.yes (by omega) ?_
     refine ND.no (by omega) ?_
     refine NCall.atA (w4) ?_
     refine ND.no (by omega) ?_
     refine ND.yes (by omega) ?_
     exact NRet.mk [] rfl ⟨.refl _, rfl⟩
    ·rw [if_neg z12]
     refine NW.w ?_
     refine NP.mk (by omega) ?_
     rw [(e4)]
     refine NW.w ?_
     refine NW.w ?_
     refine NW.w ?_
     refine NP.mk (by omega) ?_
     rw [(e4)]
     refine NW.w ?_
     refine NW.w ?_
     refine NW.w ?_
     refine NP.mk (by omega) ?_
     rw [(e4)]
     refine NW.w ?_
     refine NW.w ?_
     refine NW.w ?_
     refine ND.yes (by omega) ?_
     refine ND.no (by omega) ?_
     refine NCall.atA (w4) ?_
     refine ND.no (by omega) ?_
     refine ND.no (by omega) ?_
     exact NRet.mk [] rfl ⟨.refl _, rfl⟩
 ·rw [if_neg h8]
  rw [show ((a + q * 2 : Nat) : Int) = (a : Int) + (q : Int) * 2 by omega]
  refine NW.w ?_
  refine NP.mk (by omega) ?_
  rw [(e4)]
  refine NW.w ?_
  refine NW.w ?_
  refine NW.w ?_
  refine NP.mk (by omega) ?_
  rw [(e4)]
  refine NW.w ?_
  refine NW.w ?_
  refine NW.w ?_
  refine NP.mk (by omega) ?_
  rw [(e4)]
  refine NW.w ?_
  refine NW.w ?_
  refine NW.w ?_
  refine ND.no (by omega) ?_
  refine ND.yes (by omega) ?_
  exact NRet.mk [] rfl ⟨.refl _, rfl⟩
end Go.Bv
namespace Go.Bv
set_option linter.unusedSimpArgs false
set_option linter.unusedVariables false
set_option maxHeartbeats 4000000
set_option maxRecDepth 20000
open Go Go.Proofs
open Go.Sort (swp xorNext xorNextN bitsLen breakStep breakPatterns)
theorem NW.of {k : IntKind} {z z' : Int} {next : Int → Prop} (e : z = z') (h : NW k z' next) : NW k z next := e ▸ h
theorem bs_eq (a len md : Nat) (r : UInt64) (d : Array Item) (idx : Nat) : breakStep a len md (r, d) idx = (xorNext r, swp d idx (a + (if (xorNext r).toNat &&& (md - 1) ≥ len then ((xorNext r).toNat &&& (md - 1)) - len else (xorNext r).toNat &&& (md - 1)))) := rfl
/-- Where the other one stands. -/
def othr (r : UInt64) (md len : Nat) : Nat := if (xorNext r).toNat &&& (md - 1) ≥ len then ((xorNext r).toNat &&& (md - 1)) - len else (xorNext r).toNat &&& (md - 1)
def brk (a len md : Nat) (st : UInt64 × Array Item) (idx : Nat) : Nat → UInt64 × Array Item
 | 0 => st
 | k + 1 => brk a len md (breakStep a len md st idx) (idx + 1) k
theorem othr_lt (r : UInt64) (len : Nat) (h : 8 ≤ len) : othr r (1 <<< bitsLen len) len < len := by
 have h2 := Go.Sort.two_pow_bitsLen_le (n := len) (by omega)
 have h4 : 1 <<< bitsLen len = 2 ^ bitsLen len := by rw [Nat.shiftLeft_eq, Nat.one_mul]
 have h5 := Go.Sort.lt_two_pow_bitsLen len
 rw [← h4] at h2 h5
 clear h4
 generalize 1 <<< bitsLen len = M at *
 have h3 : (xorNext r).toNat &&& (M - 1) ≤ M - 1 := Nat.and_le_right
 unfold othr
 split <;> omega
theorem break_walk (l : List Item) (a b : Nat) (hab : a ≤ b) (hb : b ≤ l.length) (hl : l.length ≤ 60000) : ACalls Tryz.prog Nm.slices_breakPatternsCmpFunc_api_Item [.own 0 0 l.length, i64 a, i64 b, .fn Nm.item_compare []]
  [.row .vrow (.agg 8) (l.map itemA)] (.tup []) [.row .vrow (.agg 8) ((breakPatterns l.toArray a b).toList.map itemA)] := by
 refine ACalls_of tab (dr_snd tab mixed) Nm.slices_breakPatternsCmpFunc_api_Item_h rfl (by kernel_rfl) (Nat.le_of_ble_eq_true rfl) rfl ?_
 have hbp : breakPatterns l.toArray a b = if b - a ≥ 8 then (brk a (b - a) (1 <<< bitsLen (b - a)) (UInt64.ofNat (b - a), l.toArray) (a + ((b - a) / 4) * 2 - 1) 3).2 else l.toArray := by
  simp only [breakPatterns, brk, Nat.add_assoc, Nat.reduceAdd, ge_iff_le]
 have e4 : ((b : Int) - (a : Int)).tdiv 4 = (((b - a) / 4 : Nat) : Int) := by
  rw [show (b : Int) - (a : Int) = ((b - a : Nat) : Int) by omega]
  exact (Int.ofNat_tdiv (b - a) 4).symm
 by_cases h8 : b - a ≥ 8
 ·rw [hbp, if_pos h8]
  obtain ⟨len, hlen⟩ : ∃ k, k = b - a := ⟨_, rfl⟩
  have w0 := pow2_walk (b - a) (by omega)
  rw [← hlen] at h8 w0 e4 ⊢
  have el : (b : Int) - (a : Int) = (len : Int) := by omega
  have ew : IntKind.wrap .u64 (len : Int) = (len : Int) := by rw [wrap_u64]; omega
  obtain ⟨q, hq⟩ : ∃ k, k = len / 4 := ⟨_, rfl⟩
  rw [el] at e4
  rw [← hq] at e4 ⊢
  have hot := fun r => othr_lt r len (by omega)
  have hmd1 := Go.Sort.two_pow_bitsLen_le (n := len) (by omega)
  have hmd2 : 1 <<< bitsLen len = 2 ^ bitsLen len := by rw [Nat.shiftLeft_eq, Nat.one_mul]
  have hmd3 := Go.Sort.lt_two_pow_bitsLen len
  rw [← hmd2] at hmd1 hmd3
  clear hmd2
  generalize 1 <<< bitsLen len = md at *
  refine NW.w ?_
  rw [(el)]
  refine ND.yes (by omega) ?_
  refine NW.mk _ rfl ?_
  rw [(ew)]
  refine NCall.call (w0) rfl rfl ?_
  refine NP.mk (by omega) ?_
  rw [(e4)]
  refine NW.w ?_
  refine NW.w ?_
  refine NW.w ?_
  refine NW.w ?_
  refine NLoop.mk [] [0, 1, 8, 9, 10, 11] (fun m vs H => ∃ (k : Nat) (r : UInt64) (d : List Item), k ≤ 3 ∧ k = m ∧ d.length = l.length ∧ brk a len md (r, d.toArray) (a + q * 2 - 1 + (3 - k)) k = brk a len md (UInt64.ofNat len, l.toArray) (a + q * 2 - 1) 3 ∧
   H = [.row .vrow (.agg 8) (d.map itemA), .row .box .leaf [.int .u64 r.toNat]] ∧ vs = [.own 0 0 l.length, i64 a, i64 len, .ptr 1 0 0, .int .u64 md, i64 (a + q * 2 - 1 + (3 - k) : Nat)]) rfl ?_ ?_
  ·exact Canon.mk [1] rfl ⟨_, 3, UInt64.ofNat len, l, Nat.le_refl _, rfl, rfl, rfl, by rw [show (UInt64.ofNat len).toNat = len by rw [UInt64.toNat_ofNat']; omega], by rw [show (a : Int) + (q : Int) * 2 - 1 = ((a + q * 2 - 1 + (3 - 3) : Nat) : Int) by omega]; rfl⟩
  rintro m vs H ⟨k, r, d, hk, rfl, hdl, he, rfl, rfl⟩
  rw [← he]
  cases k with
  | zero =>
   refine NP.mk (by omega) ?_
   refine NW.w ?_
   refine NW.w ?_
   refine NW.w ?_
   refine NW.w ?_
   refine ND.no (by omega) ?_
   exact NRet.mk [] rfl ⟨.refl _, rfl⟩
  | succ k =>
   have w1 := xorNext_walk r.toNat (by have := r.toNat_lt; omega)
   rw [← Go.Sort.xorNext_toNat] at w1
   have hR := (xorNext r).toNat_lt
   have ef := fun (_ : True) => and_u64n (xorNext r).toNat (md - 1) (by omega) (by omega)
   have em : (md : Int) - 1 = ((md - 1 : Nat) : Int) := by omega
   have hb1 : (xorNext r).toNat &&& (md - 1) ≤ md - 1 := Nat.and_le_right
   have em2 : IntKind.wrap .u64 ((md - 1 : Nat) : Int) = ((md - 1 : Nat) : Int) := by rw [wrap_u64]; omega
   have ho := hot r
   have hoe : othr r md len = if (xorNext r).toNat &&& (md - 1) ≥ len then ((xorNext r).toNat &&& (md - 1)) - len else (xorNext r).toNat &&& (md - 1) := by unfold othr; rfl
   have hix : ((a + q * 2 - 1 + (3 - (k + 1)) : Nat) : Int) + 1 = ((a + q * 2 - 1 + (3 - k) : Nat) : Int) := by omega
   have hix2 : a + q * 2 - 1 + (3 - (k + 1)) + 1 = a + q * 2 - 1 + (3 - k) := by omega
   have k1 : a + q * 2 - 1 + (3 - (k + 1)) < d.length := by omega
   have hbrk : brk a len md (r, d.toArray) (a + q * 2 - 1 + (3 - (k + 1))) (k + 1) = brk a len md (xorNext r, swp d.toArray (a + q * 2 - 1 + (3 - (k + 1))) (a + othr r md len)) (a + q * 2 - 1 + (3 - k)) k := by
    rw [brk, bs_eq, hix2]; unfold othr; rfl
   generalize a + q * 2 - 1 + (3 - (k + 1)) = idx at *
   generalize (xorNext r).toNat &&& (md - 1) = mk at *
   by_cases ho2 : mk ≥ len
   ·rw [if_pos ho2] at hoe
    rw [hoe] at ho hbrk
    have k2 : a + (mk - len) < d.length := by omega
    have eo : (mk : Int) - (len : Int) = ((mk - len : Nat) : Int) := by omega
    have eI : Int.toNat ((a : Int) + ((mk - len : Nat) : Int)) = a + (mk - len) := by omega
    rw [swpL_eq k1 k2] at hbrk
    refine NP.mk (by omega) ?_
    refine NW.w ?_
    refine NW.w ?_
    refine NW.w ?_
    refine NW.w ?_
    refine ND.yes (by omega) ?_
    refine NCall.subA [1] (w1) ?_
    refine NW.mk _ rfl ?_
    rw [(em)]
    rw [(em2)]
    refine NW.of (ef trivial) ?_
    refine NW.w ?_
    refine ND.yes (by omega) ?_
    refine NW.w ?_
    rw [(eo)]
    refine NP.mk (by kernel_rfl) ?_
    apply NDr.any
    ·intro H'
     exact ⟨rfl, rfl⟩
    refine NDr.w _ ?_
    apply NDr.any
    ·intro H'
     exact ⟨rfl, rfl⟩
    refine NDr.w _ ?_
    refine NDr.w _ ?_
    apply NDr.pure
    ·refine NW.w ?_
     exact ⟨rfl, rfl⟩
    apply NDr.any
    ·intro H'
     exact ⟨rfl, rfl⟩
    refine NDr.w _ ?_
    refine NDr.w _ ?_
    apply NDr.pure
    ·refine NW.w ?_
     exact ⟨rfl, rfl⟩
    apply NDr.rd [0]
    ·intro fH TH
     refine NP.mk (by (simp only [zLm, zLa, zLr, zLc, zLn, zLt, zLd]; omega)) ?_
     rw [(eI)]
     exact ⟨rfl, rfl⟩
    apply NDr.rd [0]
    ·intro fH TH
     refine NG.map0N (by omega) ?_
     exact ⟨rfl, rfl⟩
    apply NDr.any
    ·intro H'
     exact ⟨rfl, rfl⟩
    refine NDr.w _ ?_
    apply NDr.rd [0]
    ·intro fH TH
     refine NP.mk (by (simp only [zLm, zLa, zLr, zLc, zLn, zLt, zLd]; omega)) ?_
     exact ⟨rfl, rfl⟩
    apply NDr.rd [0]
    ·intro fH TH
     refine NG.map0N (by omega) ?_
     exact ⟨rfl, rfl⟩
    apply NDr.rd [0]
    ·intro fH TH
     refine NP.mk (by (simp only [zLm, zLa, zLr, zLc, zLn, zLt, zLd]; omega)) ?_
     exact ⟨rfl, rfl⟩
    apply NDr.efw [0]
    ·refine NG.map0N (by omega) ?_
     exact ⟨rfl, rfl⟩
    ·repeat (first | exact True.intro | refine ⟨by first | exact rfl | exact True.intro, ?_⟩)
    apply NDr.efw []
    ·refine NP.mk (by (simp; omega)) ?_
     rw [(eI)]
     exact ⟨rfl, rfl⟩
    ·repeat (first | exact True.intro | refine ⟨by first | exact rfl | exact True.intro, ?_⟩)
    apply NDr.efw [0]
    ·refine NG.get (by simp; omega) ?_
     exact ⟨rfl, rfl⟩
    ·repeat (first | exact True.intro | refine ⟨by first | exact rfl | exact True.intro, ?_⟩)
    refine NP.mk (by kernel_rfl) ?_
    refine NW.w ?_
    exact Canon.mk [1] rfl ⟨k, by omega, k, xorNext r, swpL d idx (a + (mk - len)) k1 k2, by omega, rfl, (swpL_len k1 k2).trans hdl, hbrk.symm, by rw [← swpL_row k1 k2, Nat.zero_add, Nat.zero_add]; rfl, by rw [hix]; rfl⟩
   ·rw [if_neg ho2] at hoe
    rw [hoe] at ho hbrk
    have k2 : a + mk < d.length := by omega
    have eI : Int.toNat ((a : Int) + (mk : Int)) = a + mk := by omega
    rw [swpL_eq k1 k2] at hbrk
    refine NP.mk (by omega) ?_
    refine NW.w ?_
    refine NW.w ?_
    refine NW.w ?_
    refine NW.w ?_
    refine ND.yes (by omega) ?_
    refine NCall.subA [1] (w1) ?_
    refine NW.mk _ rfl ?_
    rw [(em)]
    rw [(em2)]
    refine NW.of (ef trivial) ?_
    refine NW.w ?_
    refine ND.no (by omega) ?_
    refine NP.mk (by kernel_rfl) ?_
    apply NDr.any
    ·intro H'
     exact ⟨rfl, rfl⟩
    refine NDr.w _ ?_
    apply NDr.any
    ·intro H'
     exact ⟨rfl, rfl⟩
    refine NDr.w _ ?_
    refine NDr.w _ ?_
    apply NDr.pure
    ·refine NW.w ?_
     exact ⟨rfl, rfl⟩
    apply NDr.any
    ·intro H'
     exact ⟨rfl, rfl⟩
    refine NDr.w _ ?_
    refine NDr.w _ ?_
    apply NDr.pure
    ·refine NW.w ?_
     exact ⟨rfl, rfl⟩
    apply NDr.rd [0]
    ·intro fH TH
     refine NP.mk (by (simp only [zLm, zLa, zLr, zLc, zLn, zLt, zLd]; omega)) ?_
     rw [(eI)]
     exact ⟨rfl, rfl⟩
    apply NDr.rd [0]
    ·intro fH TH
     refine NG.map0N (by omega) ?_
     exact ⟨rfl, rfl⟩
    apply NDr.any
    ·intro H'
     exact ⟨rfl, rfl⟩
    refine NDr.w _ ?_
    apply NDr.rd [0]
    ·intro fH TH
     refine NP.mk (by (simp only [zLm, zLa, zLr, zLc, zLn, zLt, zLd]; omega)) ?_
     exact ⟨rfl, rfl⟩
    apply NDr.rd [0]
    ·intro fH TH
     refine NG.map0N (by omega) ?_
     exact ⟨rfl, rfl⟩
    apply NDr.rd [0]
    ·intro fH TH
     refine NP.mk (by (simp only [zLm, zLa, zLr, zLc, zLn, zLt, zLd]; omega)) ?_
     exact ⟨rfl, rfl⟩
    apply NDr.efw [0]
    ·refine NG.map0N (by omega) ?_
     exact ⟨rfl, rfl⟩
    ·repeat (first | exact True.intro | refine ⟨by first | exact rfl | exact True.intro, ?_⟩)
    apply NDr.efw []
    ·refine NP.mk (by (simp; omega)) ?_
     rw [(eI)]
     exact ⟨rfl, rfl⟩
    ·repeat (first | exact True.intro | refine ⟨by first | exact rfl | exact True.intro, ?_⟩)
    apply NDr.efw [0]
    ·refine NG.get (by simp; omega) ?_
     exact ⟨rfl, rfl⟩
    ·repeat (first | exact True.intro | refine ⟨by first | exact rfl | exact True.intro, ?_⟩)
    refine NP.mk (by kernel_rfl) ?_
    refine NW.w ?_
    exact Canon.mk [1] rfl ⟨k, by omega, k, xorNext r, swpL d idx (a + mk) k1 k2, by omega, rfl, (swpL_len k1 k2).trans hdl, hbrk.symm, by rw [← swpL_row k1 k2, Nat.zero_add, Nat.zero_add]; rfl, by rw [hix]; rfl⟩
 ·rw [hbp, if_neg h8]
  refine NW.w ?_
  refine ND.no (by omega) ?_
  exact NRet.mk [] rfl ⟨.refl _, rfl⟩
end Go.Bv
