/- Part of the lift: an abstract walk of the program's code, proved sound, and what it shows of this program. -/
import Derived.Test.YtjgmoglhbdgmpaaGreatPart11
import Derived.Sort.Walk13a
import Derived.Test.YtjgmoglhbdgmpaaGreatPart10
import Derived.Test.YtjgmoglhbdgmpaaGreatPart9
import Derived.Test.YtjgmoglhbdgmpaaGreatPart8
namespace Go.Bv
set_option linter.unusedSimpArgs false
set_option linter.unusedVariables false
set_option maxHeartbeats 4000000
set_option maxRecDepth 20000
open Go Go.Proofs
open Go.Sort (insertionSort heapSort breakPatterns choosePivot reverseRange partialInsertionSort partition partitionEqual pdq rd Below hintCode Hint)
def PdqOk (P : Program) (n : Nat) : Prop := ∀ (l : List Item) (a b limit : Nat), b - a ≤ n → a ≤ b → b ≤ l.length → l.length ≤ 60000 → limit ≤ 100000 → Below ltI a b l.toArray → ACalls P Nm.slices_pdqsortCmpFunc_api_Item [.own 0 0 l.length, i64 a, i64 b, i64 limit, .fn Nm.item_compare []]
  [.row .vrow (.agg 8) (l.map itemA)] (.tup []) [.row .vrow (.agg 8) ((pdq ltI l.toArray a b limit true true).toList.map itemA)]
theorem pdq_walk : ∀ n, PdqOk Tryz.prog n := by
 intro n
 induction n with
 | zero =>
  intro l a b limit hn hab hb hl hlim hB
  refine ACalls_of tab (dr_snd tab mixed) Nm.slices_pdqsortCmpFunc_api_Item_h rfl (by kernel_rfl) (Nat.le_of_ble_eq_true rfl) rfl ?_
  have k1 := insertion_walk l a b hb (by omega) (by omega)
  rw [Go.Sort.pdq_small (lt := ltI) (d := l.toArray) (by omega)]
  skip
  refine NLoop.mk [] [0, 1, 2, 3, 4, 10, 11] (fun m vs H => m = 0 ∧ H = [.row .vrow (.agg 8) (l.map itemA)] ∧ vs = [.own 0 0 l.length, i64 a, i64 b, i64 limit, .fn Nm.item_compare [], .bool true, .bool true]) rfl ?_ ?_
  ·exact Canon.mk [] rfl ⟨_, rfl, rfl, rfl⟩
  rintro m vs H ⟨rfl, rfl, rfl⟩
  refine NW.w ?_
  refine ND.yes (by omega) ?_
  refine NCall.atA (k1) ?_
  exact NRet.mk [] rfl ⟨.refl _, rfl⟩
 | succ n ih =>
  intro l a b limit hn hab hb hl hlim hB
  refine ACalls_of tab (dr_snd tab mixed) Nm.slices_pdqsortCmpFunc_api_Item_h rfl (by kernel_rfl) (Nat.le_of_ble_eq_true rfl) rfl ?_
  skip
  refine NLoop.mk [] [0, 1, 2, 3, 4, 10, 11] (fun m vs H => ∃ (a' b' lim : Nat) (wb wp : Bool) (e : List Item), m = b' - a' ∧ a' ≤ b' ∧ b' - a' ≤ n + 1 ∧ b' ≤ l.length ∧ lim ≤ limit ∧ e.length = l.length ∧ Below ltI a' b' e.toArray ∧
   pdq ltI e.toArray a' b' lim wb wp = pdq ltI l.toArray a b limit true true ∧ H = [.row .vrow (.agg 8) (e.map itemA)] ∧ vs = [.own 0 0 l.length, i64 a', i64 b', i64 lim, .fn Nm.item_compare [], .bool wb, .bool wp]) rfl ?_ ?_
  ·exact Canon.mk [] rfl ⟨_, a, b, limit, true, true, l, rfl, hab, hn, hb, Nat.le_refl _, rfl, hB, rfl, rfl, rfl⟩
  rintro m vs H ⟨a', b', lim, wb, wp, e, rfl, hab', hn', hb', hlim', hel, hBe, he, rfl, rfl⟩
  rw [← he]
  clear he hB hn hab hb
  have hnS : b' ≤ a' + n + 1 := by omega
  clear hn'
  by_cases h12 : b' - a' ≤ 12
  ·have k1 := insertion_walk e a' b' (by omega) (by omega) (by omega)
   rw [hel] at k1
   rw [Go.Sort.pdq_small (lt := ltI) (d := e.toArray) h12]
   refine NW.w ?_
   refine ND.yes (by omega) ?_
   refine NCall.atA (k1) ?_
   exact NRet.mk [] rfl ⟨.refl _, rfl⟩
  by_cases hl0 : lim = 0
  ·have k1 := heapSort_walk e a' b' (by omega) (by omega) (by omega)
   rw [hel] at k1
   rw [Go.Sort.pdq_heap (lt := ltI) (d := e.toArray) h12 hl0]
   refine NW.w ?_
   refine ND.no (by omega) ?_
   refine ND.yes (by omega) ?_
   refine NCall.atA (k1) ?_
   exact NRet.mk [] rfl ⟨.refl _, rfl⟩
  obtain ⟨s1, B1, hc1, s2, B2, hpv, s3, B3⟩ := Go.Sort.rd_facts (lt := ltI) (d := e.toArray) (a := a') (b := b') (limit := lim) (wb := wb) (wp := wp) swoI Go.Sort.partialInsertionSort_holds Go.Sort.reverseRange_holds (show a' < b' by omega) (by simpa using (by omega : b' ≤ e.length)) hBe
  have hdone := fun h => Go.Sort.pdq_done (lt := ltI) (d := e.toArray) (a := a') (b := b') (limit := lim) (wb := wb) (wp := wp) h12 hl0 h
  have heq := fun h g => Go.Sort.pdq_eq (lt := ltI) (d := e.toArray) (a := a') (b := b') (limit := lim) (wb := wb) (wp := wp) h12 hl0 h g
  have hleft := fun h g => Go.Sort.pdq_left (lt := ltI) (d := e.toArray) (a := a') (b := b') (limit := lim) (wb := wb) (wp := wp) h12 hl0 h g
  have hright := fun h g => Go.Sort.pdq_right (lt := ltI) (d := e.toArray) (a := a') (b := b') (limit := lim) (wb := wb) (wp := wp) h12 hl0 h g
  have h12S : a' + 12 < b' := by omega
  clear h12
  have hrc := Go.Sort.rd_c (lt := ltI) (d := e.toArray) (a := a') (b := b') (limit := lim) (wb := wb) (wp := wp)
  have hdec := Go.Sort.rd_dec (lt := ltI) (d := e.toArray) (a := a') (b := b') (limit := lim) (wb := wb) (wp := wp)
  have hnot := Go.Sort.rd_not (lt := ltI) (d := e.toArray) (a := a') (b := b') (limit := lim) (wb := wb) (wp := wp)
  have hyes := Go.Sort.rd_pi_yes (lt := ltI) (d := e.toArray) (a := a') (b := b') (limit := lim) (wb := wb) (wp := wp)
  have hno := Go.Sort.rd_pi_no (lt := ltI) (d := e.toArray) (a := a') (b := b') (limit := lim) (wb := wb) (wp := wp)
  have hf1 : wb = false → (rd ltI e.toArray a' b' lim wb wp).d1 = breakPatterns e.toArray a' b' ∧ (rd ltI e.toArray a' b' lim wb wp).lim = lim - 1 := fun h => by subst h; exact Go.Sort.rd_false (lt := ltI) (d := e.toArray) (a := a') (b := b') (limit := lim) (wp := wp)
  have hf2 : wb = true → (rd ltI e.toArray a' b' lim wb wp).d1 = e.toArray ∧ (rd ltI e.toArray a' b' lim wb wp).lim = lim := fun h => by subst h; exact Go.Sort.rd_true (lt := ltI) (d := e.toArray) (a := a') (b := b') (limit := lim) (wp := wp)
  have kb := break_walk e a' b' (by omega) (by omega) (by omega)
  rw [hel] at kb
  generalize rd ltI e.toArray a' b' lim wb wp = D at *
  simp only [List.size_toArray] at s1 s2 s3
  have kc := choosePivot_walk D.d1.toList a' b' (by omega) (by simpa using (by omega : b' ≤ D.d1.size)) (by simpa using (by omega : D.d1.size ≤ 2 ^ 39))
  have kr := reverse_walk D.d1.toList a' b' (by omega) (by simpa using (by omega : b' ≤ D.d1.size)) (by simpa using (by omega : D.d1.size ≤ 2 ^ 39))
  have kp := partialIns_walk D.d2.toList a' b' (by omega) (by simpa using (by omega : b' ≤ D.d2.size)) (by simpa using (by omega : D.d2.size ≤ 2 ^ 39))
  have z1 : D.d1.toList.length = l.length := by simp; omega
  have z2 : D.d2.toList.length = l.length := by simp; omega
  have z3 : D.pi.1.toList.length = l.length := by simp; omega
  rw [z1, toA, ← hrc] at kc
  rw [z1, toA] at kr
  rw [z2, toA] at kp
  have kd := partition_walk D.pi.1.toList a' b' D.pivot hpv.1 hpv.2 (by omega) (by omega)
  have ke := partitionEqual_walk D.pi.1.toList a' b' D.pivot hpv.1 hpv.2 (by omega) (by omega)
  rw [z3, toA] at kd ke
  obtain ⟨mid, apd, d4, hx⟩ : ∃ mid apd d4, partition ltI D.pi.1 a' b' D.pivot = (mid, apd, d4) := ⟨_, _, _, rfl⟩
  obtain ⟨r1, r2, r3, r4, r5, r6, r7⟩ := Go.Sort.round_part swoI (Go.Sort.partition_holds ltI) hpv.1 hpv.2 (by omega) B3 hx
  have hleft := fun h g => hleft h g (by rw [hx]; exact ⟨r1, r2⟩)
  have hright := fun h g => hright h g (by rw [hx]; exact ⟨r1, r2⟩)
  rw [hx] at kd hleft hright
  dsimp only at kd hleft hright
  have z4 : d4.toList.length = l.length := by simp; omega
  have hl8 : lim ≤ 100000 := by omega
  have hll : D.lim ≤ 100000 := by
   cases wb with
   | false => have := (hf1 rfl).2; omega
   | true => have := (hf2 rfl).2; omega
  have hlq : D.lim ≤ limit := by
   cases wb with
   | false => have := (hf1 rfl).2; omega
   | true => have := (hf2 rfl).2; omega
  have q1 := ih d4.toList a' mid D.lim (by omega) (by omega) (by omega) (by omega) (by omega) (by rw [toA]; exact r4)
  have q2 := ih d4.toList (mid + 1) b' D.lim (by omega) (by omega) (by omega) (by omega) (by omega) (by rw [toA]; exact r5)
  rw [z4, toA] at q1 q2
  obtain ⟨pL, sL⟩ := Go.Sort.pdq_sorts ltI swoI d4 a' mid D.lim true true (by omega) (by omega) r4
  obtain ⟨pR, sR⟩ := Go.Sort.pdq_sorts ltI swoI d4 (mid + 1) b' D.lim true true (by omega) (by omega) r5
  have bL := (r6 _ pL sL).1
  have bR := (r7 _ pR sR).1
  have tL := pL.1
  have tR := pR.1
  clear r6 r7 pL sL pR sR ih B1 B2 hBe hrc hx r4 r5
  obtain ⟨q8, hq8⟩ : ∃ k, k = (b' - a') / 8 := ⟨_, rfl⟩
  have e8 : True → ((b' : Int) - (a' : Int)).tdiv 8 = (q8 : Int) := fun _ => by
   rw [hq8, show (b' : Int) - (a' : Int) = ((b' - a' : Nat) : Int) by omega]
   exact (Int.ofNat_tdiv (b' - a') 8).symm
  rw [← hq8] at hleft hright
  have hqS : 8 * q8 ≤ b' := by omega
  clear hq8
  have zL : (pdq ltI d4 a' mid D.lim true true).size = l.length := by omega
  have zR : (pdq ltI d4 (mid + 1) b' D.lim true true).size = l.length := by omega
  have sz3 : D.pi.1.size = l.length := by omega
  clear tL tR s1 s2 s3 r3 z4
  cases wb with
  | false =>
   obtain ⟨hd1, hdl⟩ := hf1 rfl
   rw [← hd1] at kb
   have el : True → (lim : Int) - 1 = (D.lim : Int) := fun _ => by omega
   have epi := hno (by simp)
   have hp2 : D.pi.2 = false := by rw [epi]
   by_cases hh : D.c.2 = .decreasing
   ·have hcode : hintCode D.c.2 = 2 := by rw [hh]; rfl
    obtain ⟨e2, ep, eh⟩ := hdec hh
    rw [← e2] at kr
    have epv : True → ((b' : Int) - 1) - ((D.c.1 : Int) - (a' : Int)) = (D.pivot : Int) := fun _ => by omega
    clear ep
    have hrow3 : D.pi.1.toList.map itemA = D.d2.toList.map itemA := by rw [epi]
    rw [hrow3] at kd ke
    have hcur : D.pi.1 = (D.d2.toList).toArray := by rw [epi, toA]
    have gp : D.pivot < (D.d2.toList).length := by omega
    by_cases ha0 : a' = 0
    ·have dec0 : ¬ a' > 0 := by omega
     have h87 : (decide (a' > 0) && !ltI D.pi.1[a' - 1]! D.pi.1[D.pivot]!) = false := by rw [decide_eq_false dec0]; rfl
     have hleft := hleft hp2 h87
     have hright := hright hp2 h87
     by_cases h4 : mid - a' < b' - mid
     ·have hL := hleft h4
      have h4S : mid + mid < a' + b' := by omega
      clear h4
      refine NW.w ?_
      refine ND.no (by omega) ?_
      refine ND.no (by omega) ?_
      refine NCall.atA (kb) ?_
      refine NW.w ?_
      rw [(el trivial)]
      refine NCall.atA (kc) ?_
      refine ND.yes (by omega) ?_
      refine NCall.atA (kr) ?_
      refine NW.w ?_
      refine NW.w ?_
      refine NW.w ?_
      rw [(epv trivial)]
      refine NP.mk (by kernel_rfl) ?_
      refine NDr.w _ ?_
      apply NDr.pure
      ·refine ND.no (by omega) ?_
       exact ⟨rfl, rfl⟩
      refine NDr.w _ ?_
      refine NDr.w _ ?_
      refine NP.mk (by kernel_rfl) ?_
      refine NCall.atA (kd) ?_
      refine NW.w ?_
      refine NW.w ?_
      refine NP.mk (by omega) ?_
      rw [(e8 trivial)]
      refine NW.w ?_
      refine ND.yes (by omega) ?_
      refine NB.dec (fun h8 => ?_) (fun h8 => ?_)
      ·have hL := hL
       rw [decide_eq_true (show mid - a' ≥ q8 by omega)] at hL
       refine NCall.atA (q1) ?_
       refine NW.w ?_
       exact Canon.mk [] rfl ⟨b' - (mid + 1), by omega, mid + 1, b', D.lim, true, apd, (pdq ltI d4 a' mid D.lim true true).toList, rfl, by omega, by omega, by omega, by omega, by simp; omega, by rw [toA]; exact bL, by rw [toA, hL], rfl, rfl⟩
      ·have hL := hL
       rw [decide_eq_false (show ¬ (mid - a' ≥ q8) by omega)] at hL
       refine NCall.atA (q1) ?_
       refine NW.w ?_
       exact Canon.mk [] rfl ⟨b' - (mid + 1), by omega, mid + 1, b', D.lim, false, apd, (pdq ltI d4 a' mid D.lim true true).toList, rfl, by omega, by omega, by omega, by omega, by simp; omega, by rw [toA]; exact bL, by rw [toA, hL], rfl, rfl⟩
     ·rw [show ((mid + 1 : Nat) : Int) = (mid : Int) + 1 by omega] at q2
      have hR := hright h4
      have h4S : ¬ mid + mid < a' + b' := by omega
      clear h4
      refine NW.w ?_
      refine ND.no (by omega) ?_
      refine ND.no (by omega) ?_
      refine NCall.atA (kb) ?_
      refine NW.w ?_
      rw [(el trivial)]
      refine NCall.atA (kc) ?_
      refine ND.yes (by omega) ?_
      refine NCall.atA (kr) ?_
      refine NW.w ?_
      refine NW.w ?_
      refine NW.w ?_
      rw [(epv trivial)]
      refine NP.mk (by kernel_rfl) ?_
      refine NDr.w _ ?_
      apply NDr.pure
      ·refine ND.no (by omega) ?_
       exact ⟨rfl, rfl⟩
      refine NDr.w _ ?_
      refine NDr.w _ ?_
      refine NP.mk (by kernel_rfl) ?_
      refine NCall.atA (kd) ?_
      refine NW.w ?_
      refine NW.w ?_
      refine NP.mk (by omega) ?_
      rw [(e8 trivial)]
      refine NW.w ?_
      refine ND.no (by omega) ?_
      refine NB.dec (fun h8 => ?_) (fun h8 => ?_)
      ·have hR := hR
       rw [decide_eq_true (show b' - mid ≥ q8 by omega)] at hR
       refine NW.w ?_
       refine NCall.atA (q2) ?_
       exact Canon.mk [] rfl ⟨mid - a', by omega, a', mid, D.lim, true, apd, (pdq ltI d4 (mid + 1) b' D.lim true true).toList, rfl, by omega, by omega, by omega, by omega, by simp; omega, by rw [toA]; exact bR, by rw [toA, hR], rfl, rfl⟩
      ·have hR := hR
       rw [decide_eq_false (show ¬ (b' - mid ≥ q8) by omega)] at hR
       refine NW.w ?_
       refine NCall.atA (q2) ?_
       exact Canon.mk [] rfl ⟨mid - a', by omega, a', mid, D.lim, false, apd, (pdq ltI d4 (mid + 1) b' D.lim true true).toList, rfl, by omega, by omega, by omega, by omega, by simp; omega, by rw [toA]; exact bR, by rw [toA, hR], rfl, rfl⟩
    ·have ga : a' - 1 < (D.d2.toList).length := by omega
     have ea : True → Int.toNat ((a' : Int) - 1) = a' - 1 := fun _ => by omega
     have b1 := item_compare_walk (D.d2.toList)[a' - 1] (D.d2.toList)[D.pivot]
     have y1 := getA ga
     have y2 := getA gp
     cases t : ltI (D.d2.toList)[a' - 1] (D.d2.toList)[D.pivot] with
     | true =>
      have u := ltT t
      have h87 : (decide (a' > 0) && !ltI D.pi.1[a' - 1]! D.pi.1[D.pivot]!) = false := by rw [hcur, y1, y2, t]; simp
      have hleft := hleft hp2 h87
      have hright := hright hp2 h87
      by_cases h4 : mid - a' < b' - mid
      ·have hL := hleft h4
       have h4S : mid + mid < a' + b' := by omega
       clear h4
       refine NW.w ?_
       refine ND.no (by omega) ?_
       refine ND.no (by omega) ?_
       refine NCall.atA (kb) ?_
       refine NW.w ?_
       rw [(el trivial)]
       refine NCall.atA (kc) ?_
       refine ND.yes (by omega) ?_
       refine NCall.atA (kr) ?_
       refine NW.w ?_
       refine NW.w ?_
       refine NW.w ?_
       rw [(epv trivial)]
       refine NP.mk (by kernel_rfl) ?_
       refine NDr.w _ ?_
       apply NDr.pure
       ·refine ND.yes (by omega) ?_
        exact ⟨rfl, rfl⟩
       refine NDr.w _ ?_
       refine NDr.w _ ?_
       apply NDr.any
       ·intro H'
        exact ⟨rfl, rfl⟩
       refine NDr.w _ ?_
       apply NDr.pure
       ·refine NW.w ?_
        exact ⟨rfl, rfl⟩
       apply NDr.rd [0]
       ·intro fH TH
        refine NP.mk (by (simp only [zLm, zLa, zLr, zLc, zLn, zLt, zLd]; omega)) ?_
        rw [(ea trivial)]
        exact ⟨rfl, rfl⟩
       apply NDr.rd [0]
       ·intro fH TH
        refine NG.map0N (by omega) ?_
        exact ⟨rfl, rfl⟩
       apply NDr.any
       ·intro H'
        exact ⟨rfl, rfl⟩
       refine NDr.w _ ?_
       apply NDr.rd [0]
       ·intro fH TH
        refine NP.mk (by (simp only [zLm, zLa, zLr, zLc, zLn, zLt, zLd]; omega)) ?_
        exact ⟨rfl, rfl⟩
       apply NDr.rd [0]
       ·intro fH TH
        refine NG.map0N (by omega) ?_
        exact ⟨rfl, rfl⟩
       apply NDr.pure
       ·refine NCall.call (b1) rfl rfl ?_
        exact ⟨rfl, rfl⟩
       apply NDr.pure
       ·refine ND.yes (by omega) ?_
        exact ⟨rfl, rfl⟩
       refine NDr.w _ ?_
       refine NDr.w _ ?_
       refine NP.mk (by kernel_rfl) ?_
       refine NCall.atA (kd) ?_
       refine NW.w ?_
       refine NW.w ?_
       refine NP.mk (by omega) ?_
       rw [(e8 trivial)]
       refine NW.w ?_
       refine ND.yes (by omega) ?_
       refine NB.dec (fun h8 => ?_) (fun h8 => ?_)
       ·have hL := hL
        rw [decide_eq_true (show mid - a' ≥ q8 by omega)] at hL
        refine NCall.atA (q1) ?_
        refine NW.w ?_
        exact Canon.mk [] rfl ⟨b' - (mid + 1), by omega, mid + 1, b', D.lim, true, apd, (pdq ltI d4 a' mid D.lim true true).toList, rfl, by omega, by omega, by omega, by omega, by simp; omega, by rw [toA]; exact bL, by rw [toA, hL], rfl, rfl⟩
       ·have hL := hL
        rw [decide_eq_false (show ¬ (mid - a' ≥ q8) by omega)] at hL
        refine NCall.atA (q1) ?_
        refine NW.w ?_
        exact Canon.mk [] rfl ⟨b' - (mid + 1), by omega, mid + 1, b', D.lim, false, apd, (pdq ltI d4 a' mid D.lim true true).toList, rfl, by omega, by omega, by omega, by omega, by simp; omega, by rw [toA]; exact bL, by rw [toA, hL], rfl, rfl⟩
      ·rw [show ((mid + 1 : Nat) : Int) = (mid : Int) + 1 by omega] at q2
       have hR := hright h4
       have h4S : ¬ mid + mid < a' + b' := by omega
       clear h4
       refine NW.w ?_
       refine ND.no (by omega) ?_
       refine ND.no (by omega) ?_
       refine NCall.atA (kb) ?_
       refine NW.w ?_
       rw [(el trivial)]
       refine NCall.atA (kc) ?_
       refine ND.yes (by omega) ?_
       refine NCall.atA (kr) ?_
       refine NW.w ?_
       refine NW.w ?_
       refine NW.w ?_
       rw [(epv trivial)]
       refine NP.mk (by kernel_rfl) ?_
       refine NDr.w _ ?_
       apply NDr.pure
       ·refine ND.yes (by omega) ?_
        exact ⟨rfl, rfl⟩
       refine NDr.w _ ?_
       refine NDr.w _ ?_
       apply NDr.any
       ·intro H'
        exact ⟨rfl, rfl⟩
       refine NDr.w _ ?_
       apply NDr.pure
       ·refine NW.w ?_
        exact ⟨rfl, rfl⟩
       apply NDr.rd [0]
       ·intro fH TH
        refine NP.mk (by (simp only [zLm, zLa, zLr, zLc, zLn, zLt, zLd]; omega)) ?_
        rw [(ea trivial)]
        exact ⟨rfl, rfl⟩
       apply NDr.rd [0]
       ·intro fH TH
        refine NG.map0N (by omega) ?_
        exact ⟨rfl, rfl⟩
       apply NDr.any
       ·intro H'
        exact ⟨rfl, rfl⟩
       refine NDr.w _ ?_
       apply NDr.rd [0]
       ·intro fH TH
        refine NP.mk (by (simp only [zLm, zLa, zLr, zLc, zLn, zLt, zLd]; omega)) ?_
        exact ⟨rfl, rfl⟩
       apply NDr.rd [0]
       ·intro fH TH
        refine NG.map0N (by omega) ?_
        exact ⟨rfl, rfl⟩
       apply NDr.pure
       ·refine NCall.call (b1) rfl rfl ?_
        exact ⟨rfl, rfl⟩
       apply NDr.pure
       ·refine ND.yes (by omega) ?_
        exact ⟨rfl, rfl⟩
       refine NDr.w _ ?_
       refine NDr.w _ ?_
       refine NP.mk (by kernel_rfl) ?_
       refine NCall.atA (kd) ?_
       refine NW.w ?_
       refine NW.w ?_
       refine NP.mk (by omega) ?_
       rw [(e8 trivial)]
       refine NW.w ?_
       refine ND.no (by omega) ?_
       refine NB.dec (fun h8 => ?_) (fun h8 => ?_)
       ·have hR := hR
        rw [decide_eq_true (show b' - mid ≥ q8 by omega)] at hR
        refine NW.w ?_
        refine NCall.atA (q2) ?_
        exact Canon.mk [] rfl ⟨mid - a', by omega, a', mid, D.lim, true, apd, (pdq ltI d4 (mid + 1) b' D.lim true true).toList, rfl, by omega, by omega, by omega, by omega, by simp; omega, by rw [toA]; exact bR, by rw [toA, hR], rfl, rfl⟩
       ·have hR := hR
        rw [decide_eq_false (show ¬ (b' - mid ≥ q8) by omega)] at hR
        refine NW.w ?_
        refine NCall.atA (q2) ?_
        exact Canon.mk [] rfl ⟨mid - a', by omega, a', mid, D.lim, false, apd, (pdq ltI d4 (mid + 1) b' D.lim true true).toList, rfl, by omega, by omega, by omega, by omega, by simp; omega, by rw [toA]; exact bR, by rw [toA, hR], rfl, rfl⟩
     | false =>
      have u := ltF t
      have h87 : (decide (a' > 0) && !ltI D.pi.1[a' - 1]! D.pi.1[D.pivot]!) = true := by rw [hcur, y1, y2, t]; simp; omega
      obtain ⟨mi, d5, hy⟩ : ∃ mi d5, partitionEqual ltI D.pi.1 a' b' D.pivot = (mi, d5) := ⟨_, _, rfl⟩
      obtain ⟨r1, r2, r3, r4, _⟩ := Go.Sort.round_eq swoI (Go.Sort.partitionEqual_holds ltI) (by omega) hpv.1 hpv.2 (by omega) B3 (by rw [hcur, y1, y2, t]) hy
      have heq := heq hp2 h87 (by rw [hy]; exact ⟨r1, r2⟩)
      rw [hy] at ke heq
      dsimp only at ke heq
      refine NW.w ?_
      refine ND.no (by omega) ?_
      refine ND.no (by omega) ?_
      refine NCall.atA (kb) ?_
      refine NW.w ?_
      rw [(el trivial)]
      refine NCall.atA (kc) ?_
      refine ND.yes (by omega) ?_
      refine NCall.atA (kr) ?_
      refine NW.w ?_
      refine NW.w ?_
      refine NW.w ?_
      rw [(epv trivial)]
      refine NP.mk (by kernel_rfl) ?_
      refine NDr.w _ ?_
      apply NDr.pure
      ·refine ND.yes (by omega) ?_
       exact ⟨rfl, rfl⟩
      refine NDr.w _ ?_
      refine NDr.w _ ?_
      apply NDr.any
      ·intro H'
       exact ⟨rfl, rfl⟩
      refine NDr.w _ ?_
      apply NDr.pure
      ·refine NW.w ?_
       exact ⟨rfl, rfl⟩
      apply NDr.rd [0]
      ·intro fH TH
       refine NP.mk (by (simp only [zLm, zLa, zLr, zLc, zLn, zLt, zLd]; omega)) ?_
       rw [(ea trivial)]
       exact ⟨rfl, rfl⟩
      apply NDr.rd [0]
      ·intro fH TH
       refine NG.map0N (by omega) ?_
       exact ⟨rfl, rfl⟩
      apply NDr.any
      ·intro H'
       exact ⟨rfl, rfl⟩
      refine NDr.w _ ?_
      apply NDr.rd [0]
      ·intro fH TH
       refine NP.mk (by (simp only [zLm, zLa, zLr, zLc, zLn, zLt, zLd]; omega)) ?_
       exact ⟨rfl, rfl⟩
      apply NDr.rd [0]
      ·intro fH TH
       refine NG.map0N (by omega) ?_
       exact ⟨rfl, rfl⟩
      apply NDr.pure
      ·refine NCall.call (b1) rfl rfl ?_
       exact ⟨rfl, rfl⟩
      apply NDr.pure
      ·refine ND.no (by omega) ?_
       exact ⟨rfl, rfl⟩
      refine NDr.w _ ?_
      refine NDr.w _ ?_
      refine NP.mk (by kernel_rfl) ?_
      refine NCall.atA (ke) ?_
      exact Canon.mk [] rfl ⟨b' - mi, by omega, mi, b', D.lim, false, wp, d5.toList, rfl, by omega, by omega, by omega, by omega, by simp; omega, by rw [toA]; exact r4, by rw [toA, heq], rfl, rfl⟩
   ·have hcode : ¬ hintCode D.c.2 = 2 := by cases h : D.c.2 with | decreasing => exact absurd h hh | increasing => simp [hintCode] | unknown => simp [hintCode]
    obtain ⟨e2, ep, eh⟩ := hnot hh
    rw [← ep] at kc
    have hrow3 : D.pi.1.toList.map itemA = D.d1.toList.map itemA := by rw [epi, e2]
    rw [hrow3] at kd ke
    have hcur : D.pi.1 = (D.d1.toList).toArray := by rw [epi, e2, toA]
    have gp : D.pivot < (D.d1.toList).length := by omega
    by_cases ha0 : a' = 0
    ·have dec0 : ¬ a' > 0 := by omega
     have h87 : (decide (a' > 0) && !ltI D.pi.1[a' - 1]! D.pi.1[D.pivot]!) = false := by rw [decide_eq_false dec0]; rfl
     have hleft := hleft hp2 h87
     have hright := hright hp2 h87
     by_cases h4 : mid - a' < b' - mid
     ·have hL := hleft h4
      have h4S : mid + mid < a' + b' := by omega
      clear h4
      refine NW.w ?_
      refine ND.no (by omega) ?_
      refine ND.no (by omega) ?_
      refine NCall.atA (kb) ?_
      refine NW.w ?_
      rw [(el trivial)]
      refine NCall.atA (kc) ?_
      refine ND.no (by omega) ?_
      refine NP.mk (by kernel_rfl) ?_
      refine NDr.w _ ?_
      apply NDr.pure
      ·refine ND.no (by omega) ?_
       exact ⟨rfl, rfl⟩
      refine NDr.w _ ?_
      refine NDr.w _ ?_
      refine NP.mk (by kernel_rfl) ?_
      refine NCall.atA (kd) ?_
      refine NW.w ?_
      refine NW.w ?_
      refine NP.mk (by omega) ?_
      rw [(e8 trivial)]
      refine NW.w ?_
      refine ND.yes (by omega) ?_
      refine NB.dec (fun h8 => ?_) (fun h8 => ?_)
      ·have hL := hL
       rw [decide_eq_true (show mid - a' ≥ q8 by omega)] at hL
       refine NCall.atA (q1) ?_
       refine NW.w ?_
       exact Canon.mk [] rfl ⟨b' - (mid + 1), by omega, mid + 1, b', D.lim, true, apd, (pdq ltI d4 a' mid D.lim true true).toList, rfl, by omega, by omega, by omega, by omega, by simp; omega, by rw [toA]; exact bL, by rw [toA, hL], rfl, rfl⟩
      ·have hL := hL
       rw [decide_eq_false (show ¬ (mid - a' ≥ q8) by omega)] at hL
       refine NCall.atA (q1) ?_
       refine NW.w ?_
       exact Canon.mk [] rfl ⟨b' - (mid + 1), by omega, mid + 1, b', D.lim, false, apd, (pdq ltI d4 a' mid D.lim true true).toList, rfl, by omega, by omega, by omega, by omega, by simp; omega, by rw [toA]; exact bL, by rw [toA, hL], rfl, rfl⟩
     ·rw [show ((mid + 1 : Nat) : Int) = (mid : Int) + 1 by omega] at q2
      have hR := hright h4
      have h4S : ¬ mid + mid < a' + b' := by omega
      clear h4
      refine NW.w ?_
      refine ND.no (by omega) ?_
      refine ND.no (by omega) ?_
      refine NCall.atA (kb) ?_
      refine NW.w ?_
      rw [(el trivial)]
      refine NCall.atA (kc) ?_
      refine ND.no (by omega) ?_
      refine NP.mk (by kernel_rfl) ?_
      refine NDr.w _ ?_
      apply NDr.pure
      ·refine ND.no (by omega) ?_
       exact ⟨rfl, rfl⟩
      refine NDr.w _ ?_
      refine NDr.w _ ?_
      refine NP.mk (by kernel_rfl) ?_
      refine NCall.atA (kd) ?_
      refine NW.w ?_
      refine NW.w ?_
      refine NP.mk (by omega) ?_
      rw [(e8 trivial)]
      refine NW.w ?_
      refine ND.no (by omega) ?_
      refine NB.dec (fun h8 => ?_) (fun h8 => ?_)
      ·have hR := hR
       rw [decide_eq_true (show b' - mid ≥ q8 by omega)] at hR
       refine NW.w ?_
       refine NCall.atA (q2) ?_
       exact Canon.mk [] rfl ⟨mid - a', by omega, a', mid, D.lim, true, apd, (pdq ltI d4 (mid + 1) b' D.lim true true).toList, rfl, by omega, by omega, by omega, by omega, by simp; omega, by rw [toA]; exact bR, by rw [toA, hR], rfl, rfl⟩
      ·have hR := hR
       rw [decide_eq_false (show ¬ (b' - mid ≥ q8) by omega)] at hR
       refine NW.w ?_
       refine NCall.atA (q2) ?_
       exact Canon.mk [] rfl ⟨mid - a', by omega, a', mid, D.lim, false, apd, (pdq ltI d4 (mid + 1) b' D.lim true true).toList, rfl, by omega, by omega, by omega, by omega, by simp; omega, by rw [toA]; exact bR, by rw [toA, hR], rfl, rfl⟩
    ·have ga : a' - 1 < (D.d1.toList).length := by omega
     have ea : True → Int.toNat ((a' : Int) - 1) = a' - 1 := fun _ => by omega
     have b1 := item_compare_walk (D.d1.toList)[a' - 1] (D.d1.toList)[D.pivot]
     have y1 := getA ga
     have y2 := getA gp
     cases t : ltI (D.d1.toList)[a' - 1] (D.d1.toList)[D.pivot] with
     | true =>
      have u := ltT t
      have h87 : (decide (a' > 0) && !ltI D.pi.1[a' - 1]! D.pi.1[D.pivot]!) = false := by rw [hcur, y1, y2, t]; simp
      have hleft := hleft hp2 h87
      have hright := hright hp2 h87
      by_cases h4 : mid - a' < b' - mid
      ·have hL := hleft h4
       have h4S : mid + mid < a' + b' := by omega
       clear h4
       refine NW.w ?_
       refine ND.no (by omega) ?_
       refine ND.no (by omega) ?_
       refine NCall.atA (kb) ?_
       refine NW.w ?_
       rw [(el trivial)]
       refine NCall.atA (kc) ?_
       refine ND.no (by omega) ?_
       refine NP.mk (by kernel_rfl) ?_
       refine NDr.w _ ?_
       apply NDr.pure
       ·refine ND.yes (by omega) ?_
        exact ⟨rfl, rfl⟩
       refine NDr.w _ ?_
       refine NDr.w _ ?_
       apply NDr.any
       ·intro H'
        exact ⟨rfl, rfl⟩
       refine NDr.w _ ?_
       apply NDr.pure
       ·refine NW.w ?_
        exact ⟨rfl, rfl⟩
       apply NDr.rd [0]
       ·intro fH TH
        refine NP.mk (by (simp only [zLm, zLa, zLr, zLc, zLn, zLt, zLd]; omega)) ?_
        rw [(ea trivial)]
        exact ⟨rfl, rfl⟩
       apply NDr.rd [0]
       ·intro fH TH
        refine NG.map0N (by omega) ?_
        exact ⟨rfl, rfl⟩
       apply NDr.any
       ·intro H'
        exact ⟨rfl, rfl⟩
       refine NDr.w _ ?_
       apply NDr.rd [0]
       ·intro fH TH
        refine NP.mk (by (simp only [zLm, zLa, zLr, zLc, zLn, zLt, zLd]; omega)) ?_
        exact ⟨rfl, rfl⟩
       apply NDr.rd [0]
       ·intro fH TH
        refine NG.map0N (by omega) ?_
        exact ⟨rfl, rfl⟩
       apply NDr.pure
       ·refine NCall.call (b1) rfl rfl ?_
        exact ⟨rfl, rfl⟩
       apply NDr.pure
       ·refine ND.yes (by omega) ?_
        exact ⟨rfl, rfl⟩
       refine NDr.w _ ?_
       refine NDr.w _ ?_
       refine NP.mk (by kernel_rfl) ?_
       refine NCall.atA (kd) ?_
       refine NW.w ?_
       refine NW.w ?_
       refine NP.mk (by omega) ?_
       rw [(e8 trivial)]
       refine NW.w ?_
       refine ND.yes (by omega) ?_
       refine NB.dec (fun h8 => ?_) (fun h8 => ?_)
       ·have hL := hL
        rw [decide_eq_true (show mid - a' ≥ q8 by omega)] at hL
        refine NCall.atA (q1) ?_
        refine NW.w ?_
        exact Canon.mk [] rfl ⟨b' - (mid + 1), by omega, mid + 1, b', D.lim, true, apd, (pdq ltI d4 a' mid D.lim true true).toList, rfl, by omega, by omega, by omega, by omega, by simp; omega, by rw [toA]; exact bL, by rw [toA, hL], rfl, rfl⟩
       ·have hL := hL
        rw [decide_eq_false (show ¬ (mid - a' ≥ q8) by omega)] at hL
        refine NCall.atA (q1) ?_
        refine NW.w ?_
        exact Canon.mk [] rfl ⟨b' - (mid + 1), by omega, mid + 1, b', D.lim, false, apd, (pdq ltI d4 a' mid D.lim true true).toList, rfl, by omega, by omega, by omega, by omega, by simp; omega, by rw [toA]; exact bL, by rw [toA, hL], rfl, rfl⟩
      ·rw [show ((mid + 1 : Nat) : Int) = (mid : Int) + 1 by omega] at q2
       have hR := hright h4
       have h4S : ¬ mid + mid < a' + b' := by omega
       clear h4
       refine NW.w ?_
       refine ND.no (by omega) ?_
       refine ND.no (by omega) ?_
       refine NCall.atA (kb) ?_
       refine NW.w ?_
       rw [(el trivial)]
       refine NCall.atA (kc) ?_
       refine ND.no (by omega) ?_
       refine NP.mk (by kernel_rfl) ?_
       refine NDr.w _ ?_
       apply NDr.pure
       ·refine ND.yes (by omega) ?_
        exact ⟨rfl, rfl⟩
       refine NDr.w _ ?_
       refine NDr.w _ ?_
       apply NDr.any
       ·intro H'
        exact ⟨rfl, rfl⟩
       refine NDr.w _ ?_
       apply NDr.pure
       ·refine NW.w ?_
        exact ⟨rfl, rfl⟩
       apply NDr.rd [0]
       ·intro fH TH
        refine NP.mk (by (simp only [zLm, zLa, zLr, zLc, zLn, zLt, zLd]; omega)) ?_
        rw [(ea trivial)]
        exact ⟨rfl, rfl⟩
       apply NDr.rd [0]
       ·intro fH TH
        refine NG.map0N (by omega) ?_
        exact ⟨rfl, rfl⟩
       apply NDr.any
       ·intro H'
        exact ⟨rfl, rfl⟩
       refine NDr.w _ ?_
       apply NDr.rd [0]
       ·intro fH TH
        refine NP.mk (by (simp only [zLm, zLa, zLr, zLc, zLn, zLt, zLd]; omega)) ?_
        exact ⟨rfl, rfl⟩
       apply NDr.rd [0]
       ·intro fH TH
        refine NG.map0N (by omega) ?_
        exact ⟨rfl, rfl⟩
       apply NDr.pure
       ·refine NCall.call (b1) rfl rfl ?_
        exact ⟨rfl, rfl⟩
       apply NDr.pure
       ·refine ND.yes (by omega) ?_
        exact ⟨rfl, rfl⟩
       refine NDr.w _ ?_
       refine NDr.w _ ?_
       refine NP.mk (by kernel_rfl) ?_
       refine NCall.atA (kd) ?_
       refine NW.w ?_
       refine NW.w ?_
       refine NP.mk (by omega) ?_
       rw [(e8 trivial)]
       refine NW.w ?_
       refine ND.no (by omega) ?_
       refine NB.dec (fun h8 => ?_) (fun h8 => ?_)
       ·have hR := hR
        rw [decide_eq_true (show b' - mid ≥ q8 by omega)] at hR
        refine NW.w ?_
        refine NCall.atA (q2) ?_
        exact Canon.mk [] rfl ⟨mid - a', by omega, a', mid, D.lim, true, apd, (pdq ltI d4 (mid + 1) b' D.lim true true).toList, rfl, by omega, by omega, by omega, by omega, by simp; omega, by rw [toA]; exact bR, by rw [toA, hR], rfl, rfl⟩
       ·have hR := hR
        rw [decide_eq_false (show ¬ (b' - mid ≥ q8) by omega)] at hR
        refine NW.w ?_
        refine NCall.atA (q2) ?_
        exact Canon.mk [] rfl ⟨mid - a', by omega, a', mid, D.lim, false, apd, (pdq ltI d4 (mid + 1) b' D.lim true true).toList, rfl, by omega, by omega, by omega, by omega, by simp; omega, by rw [toA]; exact bR, by rw [toA, hR], rfl, rfl⟩
     | false =>
      have u := ltF t
      have h87 : (decide (a' > 0) && !ltI D.pi.1[a' - 1]! D.pi.1[D.pivot]!) = true := by rw [hcur, y1, y2, t]; simp; omega
      obtain ⟨mi, d5, hy⟩ : ∃ mi d5, partitionEqual ltI D.pi.1 a' b' D.pivot = (mi, d5) := ⟨_, _, rfl⟩
      obtain ⟨r1, r2, r3, r4, _⟩ := Go.Sort.round_eq swoI (Go.Sort.partitionEqual_holds ltI) (by omega) hpv.1 hpv.2 (by omega) B3 (by rw [hcur, y1, y2, t]) hy
      have heq := heq hp2 h87 (by rw [hy]; exact ⟨r1, r2⟩)
      rw [hy] at ke heq
      dsimp only at ke heq
      refine NW.w ?_
      refine ND.no (by omega) ?_
      refine ND.no (by omega) ?_
      refine NCall.atA (kb) ?_
      refine NW.w ?_
      rw [(el trivial)]
      refine NCall.atA (kc) ?_
      refine ND.no (by omega) ?_
      refine NP.mk (by kernel_rfl) ?_
      refine NDr.w _ ?_
      apply NDr.pure
      ·refine ND.yes (by omega) ?_
       exact ⟨rfl, rfl⟩
      refine NDr.w _ ?_
      refine NDr.w _ ?_
      apply NDr.any
      ·intro H'
       exact ⟨rfl, rfl⟩
      refine NDr.w _ ?_
      apply NDr.pure
      ·refine NW.w ?_
       exact ⟨rfl, rfl⟩
      apply NDr.rd [0]
      ·intro fH TH
       refine NP.mk (by (simp only [zLm, zLa, zLr, zLc, zLn, zLt, zLd]; omega)) ?_
       rw [(ea trivial)]
       exact ⟨rfl, rfl⟩
      apply NDr.rd [0]
      ·intro fH TH
       refine NG.map0N (by omega) ?_
       exact ⟨rfl, rfl⟩
      apply NDr.any
      ·intro H'
       exact ⟨rfl, rfl⟩
      refine NDr.w _ ?_
      apply NDr.rd [0]
      ·intro fH TH
       refine NP.mk (by (simp only [zLm, zLa, zLr, zLc, zLn, zLt, zLd]; omega)) ?_
       exact ⟨rfl, rfl⟩
      apply NDr.rd [0]
      ·intro fH TH
       refine NG.map0N (by omega) ?_
       exact ⟨rfl, rfl⟩
      apply NDr.pure
      ·refine NCall.call (b1) rfl rfl ?_
       exact ⟨rfl, rfl⟩
      apply NDr.pure
      ·refine ND.no (by omega) ?_
       exact ⟨rfl, rfl⟩
      refine NDr.w _ ?_
      refine NDr.w _ ?_
      refine NP.mk (by kernel_rfl) ?_
      refine NCall.atA (ke) ?_
      exact Canon.mk [] rfl ⟨b' - mi, by omega, mi, b', D.lim, false, wp, d5.toList, rfl, by omega, by omega, by omega, by omega, by simp; omega, by rw [toA]; exact r4, by rw [toA, heq], rfl, rfl⟩
  | true =>
   cases wp with
   | false =>
    obtain ⟨hd1, hdl⟩ := hf2 rfl
    have hrow : D.d1.toList.map itemA = e.map itemA := by rw [hd1]
    rw [hrow] at kc kr
    subst hdl
    have epi := hno (by simp)
    have hp2 : D.pi.2 = false := by rw [epi]
    by_cases hh : D.c.2 = .decreasing
    ·have hcode : hintCode D.c.2 = 2 := by rw [hh]; rfl
     obtain ⟨e2, ep, eh⟩ := hdec hh
     rw [← e2] at kr
     have epv : True → ((b' : Int) - 1) - ((D.c.1 : Int) - (a' : Int)) = (D.pivot : Int) := fun _ => by omega
     clear ep
     have hrow3 : D.pi.1.toList.map itemA = D.d2.toList.map itemA := by rw [epi]
     rw [hrow3] at kd ke
     have hcur : D.pi.1 = (D.d2.toList).toArray := by rw [epi, toA]
     have gp : D.pivot < (D.d2.toList).length := by omega
     by_cases ha0 : a' = 0
     ·have dec0 : ¬ a' > 0 := by omega
      have h87 : (decide (a' > 0) && !ltI D.pi.1[a' - 1]! D.pi.1[D.pivot]!) = false := by rw [decide_eq_false dec0]; rfl
      have hleft := hleft hp2 h87
      have hright := hright hp2 h87
      by_cases h4 : mid - a' < b' - mid
      ·have hL := hleft h4
       have h4S : mid + mid < a' + b' := by omega
       clear h4
       refine NW.w ?_
       refine ND.no (by omega) ?_
       refine ND.no (by omega) ?_
       refine NCall.atA (kc) ?_
       refine ND.yes (by omega) ?_
       refine NCall.atA (kr) ?_
       refine NW.w ?_
       refine NW.w ?_
       refine NW.w ?_
       rw [(epv trivial)]
       refine NP.mk (by kernel_rfl) ?_
       refine NDr.w _ ?_
       apply NDr.pure
       ·refine ND.no (by omega) ?_
        exact ⟨rfl, rfl⟩
       refine NDr.w _ ?_
       refine NDr.w _ ?_
       refine NP.mk (by kernel_rfl) ?_
       refine NCall.atA (kd) ?_
       refine NW.w ?_
       refine NW.w ?_
       refine NP.mk (by omega) ?_
       rw [(e8 trivial)]
       refine NW.w ?_
       refine ND.yes (by omega) ?_
       refine NB.dec (fun h8 => ?_) (fun h8 => ?_)
       ·have hL := hL
        rw [decide_eq_true (show mid - a' ≥ q8 by omega)] at hL
        refine NCall.atA (q1) ?_
        refine NW.w ?_
        exact Canon.mk [] rfl ⟨b' - (mid + 1), by omega, mid + 1, b', D.lim, true, apd, (pdq ltI d4 a' mid D.lim true true).toList, rfl, by omega, by omega, by omega, by omega, by simp; omega, by rw [toA]; exact bL, by rw [toA, hL], rfl, rfl⟩
       ·have hL := hL
        rw [decide_eq_false (show ¬ (mid - a' ≥ q8) by omega)] at hL
        refine NCall.atA (q1) ?_
        refine NW.w ?_
        exact Canon.mk [] rfl ⟨b' - (mid + 1), by omega, mid + 1, b', D.lim, false, apd, (pdq ltI d4 a' mid D.lim true true).toList, rfl, by omega, by omega, by omega, by omega, by simp; omega, by rw [toA]; exact bL, by rw [toA, hL], rfl, rfl⟩
      ·rw [show ((mid + 1 : Nat) : Int) = (mid : Int) + 1 by omega] at q2
       have hR := hright h4
       have h4S : ¬ mid + mid < a' + b' := by omega
       clear h4
       refine NW.w ?_
       refine ND.no (by omega) ?_
       refine ND.no (by omega) ?_
       refine NCall.atA (kc) ?_
       refine ND.yes (by omega) ?_
       refine NCall.atA (kr) ?_
       refine NW.w ?_
       refine NW.w ?_
       refine NW.w ?_
       rw [(epv trivial)]
       refine NP.mk (by kernel_rfl) ?_
       refine NDr.w _ ?_
       apply NDr.pure
       ·refine ND.no (by omega) ?_
        exact ⟨rfl, rfl⟩
       refine NDr.w _ ?_
       refine NDr.w _ ?_
       refine NP.mk (by kernel_rfl) ?_
       refine NCall.atA (kd) ?_
       refine NW.w ?_
       refine NW.w ?_
       refine NP.mk (by omega) ?_
       rw [(e8 trivial)]
       refine NW.w ?_
       refine ND.no (by omega) ?_
       refine NB.dec (fun h8 => ?_) (fun h8 => ?_)
       ·have hR := hR
        rw [decide_eq_true (show b' - mid ≥ q8 by omega)] at hR
        refine NW.w ?_
        refine NCall.atA (q2) ?_
        exact Canon.mk [] rfl ⟨mid - a', by omega, a', mid, D.lim, true, apd, (pdq ltI d4 (mid + 1) b' D.lim true true).toList, rfl, by omega, by omega, by omega, by omega, by simp; omega, by rw [toA]; exact bR, by rw [toA, hR], rfl, rfl⟩
       ·have hR := hR
        rw [decide_eq_false (show ¬ (b' - mid ≥ q8) by omega)] at hR
        refine NW.w ?_
        refine NCall.atA (q2) ?_
        exact Canon.mk [] rfl ⟨mid - a', by omega, a', mid, D.lim, false, apd, (pdq ltI d4 (mid + 1) b' D.lim true true).toList, rfl, by omega, by omega, by omega, by omega, by simp; omega, by rw [toA]; exact bR, by rw [toA, hR], rfl, rfl⟩
     ·have ga : a' - 1 < (D.d2.toList).length := by omega
      have ea : True → Int.toNat ((a' : Int) - 1) = a' - 1 := fun _ => by omega
      have b1 := item_compare_walk (D.d2.toList)[a' - 1] (D.d2.toList)[D.pivot]
      have y1 := getA ga
      have y2 := getA gp
      cases t : ltI (D.d2.toList)[a' - 1] (D.d2.toList)[D.pivot] with
      | true =>
       have u := ltT t
       have h87 : (decide (a' > 0) && !ltI D.pi.1[a' - 1]! D.pi.1[D.pivot]!) = false := by rw [hcur, y1, y2, t]; simp
       have hleft := hleft hp2 h87
       have hright := hright hp2 h87
       by_cases h4 : mid - a' < b' - mid
       ·have hL := hleft h4
        have h4S : mid + mid < a' + b' := by omega
        clear h4
        refine NW.w ?_
        refine ND.no (by omega) ?_
        refine ND.no (by omega) ?_
        refine NCall.atA (kc) ?_
        refine ND.yes (by omega) ?_
        refine NCall.atA (kr) ?_
        refine NW.w ?_
        refine NW.w ?_
        refine NW.w ?_
        rw [(epv trivial)]
        refine NP.mk (by kernel_rfl) ?_
        refine NDr.w _ ?_
        apply NDr.pure
        ·refine ND.yes (by omega) ?_
         exact ⟨rfl, rfl⟩
        refine NDr.w _ ?_
        refine NDr.w _ ?_
        apply NDr.any
        ·intro H'
         exact ⟨rfl, rfl⟩
        refine NDr.w _ ?_
        apply NDr.pure
        ·refine NW.w ?_
         exact ⟨rfl, rfl⟩
        apply NDr.rd [0]
        ·intro fH TH
         refine NP.mk (by (simp only [zLm, zLa, zLr, zLc, zLn, zLt, zLd]; omega)) ?_
         rw [(ea trivial)]
         exact ⟨rfl, rfl⟩
        apply NDr.rd [0]
        ·intro fH TH
         refine NG.map0N (by omega) ?_
         exact ⟨rfl, rfl⟩
        apply NDr.any
        ·intro H'
         exact ⟨rfl, rfl⟩
        refine NDr.w _ ?_
        apply NDr.rd [0]
        ·intro fH TH
         refine NP.mk (by (simp only [zLm, zLa, zLr, zLc, zLn, zLt, zLd]; omega)) ?_
         exact ⟨rfl, rfl⟩
        apply NDr.rd [0]
        ·intro fH TH
         refine NG.map0N (by omega) ?_
         exact ⟨rfl, rfl⟩
        apply NDr.pure
        ·refine NCall.call (b1) rfl rfl ?_
         exact ⟨rfl, rfl⟩
        apply NDr.pure
        ·refine ND.yes (by omega) ?_
         exact ⟨rfl, rfl⟩
        refine NDr.w _ ?_
        refine NDr.w _ ?_
        refine NP.mk (by kernel_rfl) ?_
        refine NCall.atA (kd) ?_
        refine NW.w ?_
        refine NW.w ?_
        refine NP.mk (by omega) ?_
        rw [(e8 trivial)]
        refine NW.w ?_
        refine ND.yes (by omega) ?_
        refine NB.dec (fun h8 => ?_) (fun h8 => ?_)
        ·have hL := hL
         rw [decide_eq_true (show mid - a' ≥ q8 by omega)] at hL
         refine NCall.atA (q1) ?_
         refine NW.w ?_
         exact Canon.mk [] rfl ⟨b' - (mid + 1), by omega, mid + 1, b', D.lim, true, apd, (pdq ltI d4 a' mid D.lim true true).toList, rfl, by omega, by omega, by omega, by omega, by simp; omega, by rw [toA]; exact bL, by rw [toA, hL], rfl, rfl⟩
        ·have hL := hL
         rw [decide_eq_false (show ¬ (mid - a' ≥ q8) by omega)] at hL
         refine NCall.atA (q1) ?_
         refine NW.w ?_
         exact Canon.mk [] rfl ⟨b' - (mid + 1), by omega, mid + 1, b', D.lim, false, apd, (pdq ltI d4 a' mid D.lim true true).toList, rfl, by omega, by omega, by omega, by omega, by simp; omega, by rw [toA]; exact bL, by rw [toA, hL], rfl, rfl⟩
       ·rw [show ((mid + 1 : Nat) : Int) = (mid : Int) + 1 by omega] at q2
        have hR := hright h4
        have h4S : ¬ mid + mid < a' + b' := by omega
        clear h4
        refine NW.w ?_
        refine ND.no (by omega) ?_
        refine ND.no (by omega) ?_
        refine NCall.atA (kc) ?_
        refine ND.yes (by omega) ?_
        refine NCall.atA (kr) ?_
        refine NW.w ?_
        refine NW.w ?_
        refine NW.w ?_
        rw [(epv trivial)]
        refine NP.mk (by kernel_rfl) ?_
        refine NDr.w _ ?_
        apply NDr.pure
        ·refine ND.yes (by omega) ?_
         exact ⟨rfl, rfl⟩
        refine NDr.w _ ?_
        refine NDr.w _ ?_
        apply NDr.any
        ·intro H'
         exact ⟨rfl, rfl⟩
        refine NDr.w _ ?_
        apply NDr.pure
        ·refine NW.w ?_
         exact ⟨rfl, rfl⟩
        apply NDr.rd [0]
        ·intro fH TH
         refine NP.mk (by (simp only [zLm, zLa, zLr, zLc, zLn, zLt, zLd]; omega)) ?_
         rw [(ea trivial)]
         exact ⟨rfl, rfl⟩
        apply NDr.rd [0]
        ·intro fH TH
         refine NG.map0N (by omega) ?_
         exact ⟨rfl, rfl⟩
        apply NDr.any
        ·intro H'
         exact ⟨rfl, rfl⟩
        refine NDr.w _ ?_
        apply NDr.rd [0]
        ·intro fH TH
         refine NP.mk (by (simp only [zLm, zLa, zLr, zLc, zLn, zLt, zLd]; omega)) ?_
         exact ⟨rfl, rfl⟩
        apply NDr.rd [0]
        ·intro fH TH
         refine NG.map0N (by omega) ?_
         exact ⟨rfl, rfl⟩
        apply NDr.pure
        ·refine NCall.call (b1) rfl rfl ?_
         exact ⟨rfl, rfl⟩
        apply NDr.pure
        ·refine ND.yes (by omega) ?_
         exact ⟨rfl, rfl⟩
        refine NDr.w _ ?_
        refine NDr.w _ ?_
        refine NP.mk (by kernel_rfl) ?_
        refine NCall.atA (kd) ?_
        refine NW.w ?_
        refine NW.w ?_
        refine NP.mk (by omega) ?_
        rw [(e8 trivial)]
        refine NW.w ?_
        refine ND.no (by omega) ?_
        refine NB.dec (fun h8 => ?_) (fun h8 => ?_)
        ·have hR := hR
         rw [decide_eq_true (show b' - mid ≥ q8 by omega)] at hR
         refine NW.w ?_
         refine NCall.atA (q2) ?_
         exact Canon.mk [] rfl ⟨mid - a', by omega, a', mid, D.lim, true, apd, (pdq ltI d4 (mid + 1) b' D.lim true true).toList, rfl, by omega, by omega, by omega, by omega, by simp; omega, by rw [toA]; exact bR, by rw [toA, hR], rfl, rfl⟩
        ·have hR := hR
         rw [decide_eq_false (show ¬ (b' - mid ≥ q8) by omega)] at hR
         refine NW.w ?_
         refine NCall.atA (q2) ?_
         exact Canon.mk [] rfl ⟨mid - a', by omega, a', mid, D.lim, false, apd, (pdq ltI d4 (mid + 1) b' D.lim true true).toList, rfl, by omega, by omega, by omega, by omega, by simp; omega, by rw [toA]; exact bR, by rw [toA, hR], rfl, rfl⟩
      | false =>
       have u := ltF t
       have h87 : (decide (a' > 0) && !ltI D.pi.1[a' - 1]! D.pi.1[D.pivot]!) = true := by rw [hcur, y1, y2, t]; simp; omega
       obtain ⟨mi, d5, hy⟩ : ∃ mi d5, partitionEqual ltI D.pi.1 a' b' D.pivot = (mi, d5) := ⟨_, _, rfl⟩
       obtain ⟨r1, r2, r3, r4, _⟩ := Go.Sort.round_eq swoI (Go.Sort.partitionEqual_holds ltI) (by omega) hpv.1 hpv.2 (by omega) B3 (by rw [hcur, y1, y2, t]) hy
       have heq := heq hp2 h87 (by rw [hy]; exact ⟨r1, r2⟩)
       rw [hy] at ke heq
       dsimp only at ke heq
       refine NW.w ?_
       refine ND.no (by omega) ?_
       refine ND.no (by omega) ?_
       refine NCall.atA (kc) ?_
       refine ND.yes (by omega) ?_
       refine NCall.atA (kr) ?_
       refine NW.w ?_
       refine NW.w ?_
       refine NW.w ?_
       rw [(epv trivial)]
       refine NP.mk (by kernel_rfl) ?_
       refine NDr.w _ ?_
       apply NDr.pure
       ·refine ND.yes (by omega) ?_
        exact ⟨rfl, rfl⟩
       refine NDr.w _ ?_
       refine NDr.w _ ?_
       apply NDr.any
       ·intro H'
        exact ⟨rfl, rfl⟩
       refine NDr.w _ ?_
       apply NDr.pure
       ·refine NW.w ?_
        exact ⟨rfl, rfl⟩
       apply NDr.rd [0]
       ·intro fH TH
        refine NP.mk (by (simp only [zLm, zLa, zLr, zLc, zLn, zLt, zLd]; omega)) ?_
        rw [(ea trivial)]
        exact ⟨rfl, rfl⟩
       apply NDr.rd [0]
       ·intro fH TH
        refine NG.map0N (by omega) ?_
        exact ⟨rfl, rfl⟩
       apply NDr.any
       ·intro H'
        exact ⟨rfl, rfl⟩
       refine NDr.w _ ?_
       apply NDr.rd [0]
       ·intro fH TH
        refine NP.mk (by (simp only [zLm, zLa, zLr, zLc, zLn, zLt, zLd]; omega)) ?_
        exact ⟨rfl, rfl⟩
       apply NDr.rd [0]
       ·intro fH TH
        refine NG.map0N (by omega) ?_
        exact ⟨rfl, rfl⟩
       apply NDr.pure
       ·refine NCall.call (b1) rfl rfl ?_
        exact ⟨rfl, rfl⟩
       apply NDr.pure
       ·refine ND.no (by omega) ?_
        exact ⟨rfl, rfl⟩
       refine NDr.w _ ?_
       refine NDr.w _ ?_
       refine NP.mk (by kernel_rfl) ?_
       refine NCall.atA (ke) ?_
       exact Canon.mk [] rfl ⟨b' - mi, by omega, mi, b', D.lim, true, false, d5.toList, rfl, by omega, by omega, by omega, by omega, by simp; omega, by rw [toA]; exact r4, by rw [toA, heq], rfl, rfl⟩
    ·have hcode : ¬ hintCode D.c.2 = 2 := by cases h : D.c.2 with | decreasing => exact absurd h hh | increasing => simp [hintCode] | unknown => simp [hintCode]
     obtain ⟨e2, ep, eh⟩ := hnot hh
     rw [← ep] at kc
     have hrow3 : D.pi.1.toList.map itemA = e.map itemA := by rw [epi, e2, hd1]
     rw [hrow3] at kd ke
     have hcur : D.pi.1 = (e).toArray := by rw [epi, e2, hd1]
     have gp : D.pivot < (e).length := by omega
     by_cases ha0 : a' = 0
     ·have dec0 : ¬ a' > 0 := by omega
      have h87 : (decide (a' > 0) && !ltI D.pi.1[a' - 1]! D.pi.1[D.pivot]!) = false := by rw [decide_eq_false dec0]; rfl
      have hleft := hleft hp2 h87
      have hright := hright hp2 h87
      by_cases h4 : mid - a' < b' - mid
      ·have hL := hleft h4
       have h4S : mid + mid < a' + b' := by omega
       clear h4
       refine NW.w ?_
       refine ND.no (by omega) ?_
       refine ND.no (by omega) ?_
       refine NCall.atA (kc) ?_
       refine ND.no (by omega) ?_
       refine NP.mk (by kernel_rfl) ?_
       refine NDr.w _ ?_
       apply NDr.pure
       ·refine ND.no (by omega) ?_
        exact ⟨rfl, rfl⟩
       refine NDr.w _ ?_
       refine NDr.w _ ?_
       refine NP.mk (by kernel_rfl) ?_
       refine NCall.atA (kd) ?_
       refine NW.w ?_
       refine NW.w ?_
       refine NP.mk (by omega) ?_
       rw [(e8 trivial)]
       refine NW.w ?_
       refine ND.yes (by omega) ?_
       refine NB.dec (fun h8 => ?_) (fun h8 => ?_)
       ·have hL := hL
        rw [decide_eq_true (show mid - a' ≥ q8 by omega)] at hL
        refine NCall.atA (q1) ?_
        refine NW.w ?_
        exact Canon.mk [] rfl ⟨b' - (mid + 1), by omega, mid + 1, b', D.lim, true, apd, (pdq ltI d4 a' mid D.lim true true).toList, rfl, by omega, by omega, by omega, by omega, by simp; omega, by rw [toA]; exact bL, by rw [toA, hL], rfl, rfl⟩
       ·have hL := hL
        rw [decide_eq_false (show ¬ (mid - a' ≥ q8) by omega)] at hL
        refine NCall.atA (q1) ?_
        refine NW.w ?_
        exact Canon.mk [] rfl ⟨b' - (mid + 1), by omega, mid + 1, b', D.lim, false, apd, (pdq ltI d4 a' mid D.lim true true).toList, rfl, by omega, by omega, by omega, by omega, by simp; omega, by rw [toA]; exact bL, by rw [toA, hL], rfl, rfl⟩
      ·rw [show ((mid + 1 : Nat) : Int) = (mid : Int) + 1 by omega] at q2
       have hR := hright h4
       have h4S : ¬ mid + mid < a' + b' := by omega
       clear h4
       refine NW.w ?_
       refine ND.no (by omega) ?_
       refine ND.no (by omega) ?_
       refine NCall.atA (kc) ?_
       refine ND.no (by omega) ?_
       refine NP.mk (by kernel_rfl) ?_
       refine NDr.w _ ?_
       apply NDr.pure
       ·refine ND.no (by omega) ?_
        exact ⟨rfl, rfl⟩
       refine NDr.w _ ?_
       refine NDr.w _ ?_
       refine NP.mk (by kernel_rfl) ?_
       refine NCall.atA (kd) ?_
       refine NW.w ?_
       refine NW.w ?_
       refine NP.mk (by omega) ?_
       rw [(e8 trivial)]
       refine NW.w ?_
       refine ND.no (by omega) ?_
       refine NB.dec (fun h8 => ?_) (fun h8 => ?_)
       ·have hR := hR
        rw [decide_eq_true (show b' - mid ≥ q8 by omega)] at hR
        refine NW.w ?_
        refine NCall.atA (q2) ?_
        exact Canon.mk [] rfl ⟨mid - a', by omega, a', mid, D.lim, true, apd, (pdq ltI d4 (mid + 1) b' D.lim true true).toList, rfl, by omega, by omega, by omega, by omega, by simp; omega, by rw [toA]; exact bR, by rw [toA, hR], rfl, rfl⟩
       ·have hR := hR
        rw [decide_eq_false (show ¬ (b' - mid ≥ q8) by omega)] at hR
        refine NW.w ?_
        refine NCall.atA (q2) ?_
        exact Canon.mk [] rfl ⟨mid - a', by omega, a', mid, D.lim, false, apd, (pdq ltI d4 (mid + 1) b' D.lim true true).toList, rfl, by omega, by omega, by omega, by omega, by simp; omega, by rw [toA]; exact bR, by rw [toA, hR], rfl, rfl⟩
     ·have ga : a' - 1 < (e).length := by omega
      have ea : True → Int.toNat ((a' : Int) - 1) = a' - 1 := fun _ => by omega
      have b1 := item_compare_walk (e)[a' - 1] (e)[D.pivot]
      have y1 := getA ga
      have y2 := getA gp
      cases t : ltI (e)[a' - 1] (e)[D.pivot] with
      | true =>
       have u := ltT t
       have h87 : (decide (a' > 0) && !ltI D.pi.1[a' - 1]! D.pi.1[D.pivot]!) = false := by rw [hcur, y1, y2, t]; simp
       have hleft := hleft hp2 h87
       have hright := hright hp2 h87
       by_cases h4 : mid - a' < b' - mid
       ·have hL := hleft h4
        have h4S : mid + mid < a' + b' := by omega
        clear h4
        refine NW.w ?_
        refine ND.no (by omega) ?_
        refine ND.no (by omega) ?_
        refine NCall.atA (kc) ?_
        refine ND.no (by omega) ?_
        refine NP.mk (by kernel_rfl) ?_
        refine NDr.w _ ?_
        apply NDr.pure
        ·refine ND.yes (by omega) ?_
         exact ⟨rfl, rfl⟩
        refine NDr.w _ ?_
        refine NDr.w _ ?_
        apply NDr.any
        ·intro H'
         exact ⟨rfl, rfl⟩
        refine NDr.w _ ?_
        apply NDr.pure
        ·refine NW.w ?_
         exact ⟨rfl, rfl⟩
        apply NDr.rd [0]
        ·intro fH TH
         refine NP.mk (by (simp only [zLm, zLa, zLr, zLc, zLn, zLt, zLd]; omega)) ?_
         rw [(ea trivial)]
         exact ⟨rfl, rfl⟩
        apply NDr.rd [0]
        ·intro fH TH
         refine NG.map0N (by omega) ?_
         exact ⟨rfl, rfl⟩
        apply NDr.any
        ·intro H'
         exact ⟨rfl, rfl⟩
        refine NDr.w _ ?_
        apply NDr.rd [0]
        ·intro fH TH
         refine NP.mk (by (simp only [zLm, zLa, zLr, zLc, zLn, zLt, zLd]; omega)) ?_
         exact ⟨rfl, rfl⟩
        apply NDr.rd [0]
        ·intro fH TH
         refine NG.map0N (by omega) ?_
         exact ⟨rfl, rfl⟩
        apply NDr.pure
        ·refine NCall.call (b1) rfl rfl ?_
         exact ⟨rfl, rfl⟩
        apply NDr.pure
        ·refine ND.yes (by omega) ?_
         exact ⟨rfl, rfl⟩
        refine NDr.w _ ?_
        refine NDr.w _ ?_
        refine NP.mk (by kernel_rfl) ?_
        refine NCall.atA (kd) ?_
        refine NW.w ?_
        refine NW.w ?_
        refine NP.mk (by omega) ?_
        rw [(e8 trivial)]
        refine NW.w ?_
        refine ND.yes (by omega) ?_
        refine NB.dec (fun h8 => ?_) (fun h8 => ?_)
        ·have hL := hL
         rw [decide_eq_true (show mid - a' ≥ q8 by omega)] at hL
         refine NCall.atA (q1) ?_
         refine NW.w ?_
         exact Canon.mk [] rfl ⟨b' - (mid + 1), by omega, mid + 1, b', D.lim, true, apd, (pdq ltI d4 a' mid D.lim true true).toList, rfl, by omega, by omega, by omega, by omega, by simp; omega, by rw [toA]; exact bL, by rw [toA, hL], rfl, rfl⟩
        ·have hL := hL
         rw [decide_eq_false (show ¬ (mid - a' ≥ q8) by omega)] at hL
         refine NCall.atA (q1) ?_
         refine NW.w ?_
         exact Canon.mk [] rfl ⟨b' - (mid + 1), by omega, mid + 1, b', D.lim, false, apd, (pdq ltI d4 a' mid D.lim true true).toList, rfl, by omega, by omega, by omega, by omega, by simp; omega, by rw [toA]; exact bL, by rw [toA, hL], rfl, rfl⟩
       ·rw [show ((mid + 1 : Nat) : Int) = (mid : Int) + 1 by omega] at q2
        have hR := hright h4
        have h4S : ¬ mid + mid < a' + b' := by omega
        clear h4
        refine NW.w ?_
        refine ND.no (by omega) ?_
        refine ND.no (by omega) ?_
        refine NCall.atA (kc) ?_
        refine ND.no (by omega) ?_
        refine NP.mk (by kernel_rfl) ?_
        refine NDr.w _ ?_
        apply NDr.pure
        ·refine ND.yes (by omega) ?_
         exact ⟨rfl, rfl⟩
        refine NDr.w _ ?_
        refine NDr.w _ ?_
        apply NDr.any
        ·intro H'
         exact ⟨rfl, rfl⟩
        refine NDr.w _ ?_
        apply NDr.pure
        ·refine NW.w ?_
         exact ⟨rfl, rfl⟩
        apply NDr.rd [0]
        ·intro fH TH
         refine NP.mk (by (simp only [zLm, zLa, zLr, zLc, zLn, zLt, zLd]; omega)) ?_
         rw [(ea trivial)]
         exact ⟨rfl, rfl⟩
        apply NDr.rd [0]
        ·intro fH TH
         refine NG.map0N (by omega) ?_
         exact ⟨rfl, rfl⟩
        apply NDr.any
        ·intro H'
         exact ⟨rfl, rfl⟩
        refine NDr.w _ ?_
        apply NDr.rd [0]
        ·intro fH TH
         refine NP.mk (by (simp only [zLm, zLa, zLr, zLc, zLn, zLt, zLd]; omega)) ?_
         exact ⟨rfl, rfl⟩
        apply NDr.rd [0]
        ·intro fH TH
         refine NG.map0N (by omega) ?_
         exact ⟨rfl, rfl⟩
        apply NDr.pure
        ·refine NCall.call (b1) rfl rfl ?_
         exact ⟨rfl, rfl⟩
        apply NDr.pure
        ·refine ND.yes (by omega) ?_
         exact ⟨rfl, rfl⟩
        refine NDr.w _ ?_
        refine NDr.w _ ?_
        refine NP.mk (by kernel_rfl) ?_
        refine NCall.atA (kd) ?_
        refine NW.w ?_
        refine NW.w ?_
        refine NP.mk (by omega) ?_
        rw [(e8 trivial)]
        refine NW.w ?_
        refine ND.no (by omega) ?_
        refine NB.dec (fun h8 => ?_) (fun h8 => ?_)
        ·have hR := hR
         rw [decide_eq_true (show b' - mid ≥ q8 by omega)] at hR
         refine NW.w ?_
         refine NCall.atA (q2) ?_
         exact Canon.mk [] rfl ⟨mid - a', by omega, a', mid, D.lim, true, apd, (pdq ltI d4 (mid + 1) b' D.lim true true).toList, rfl, by omega, by omega, by omega, by omega, by simp; omega, by rw [toA]; exact bR, by rw [toA, hR], rfl, rfl⟩
        ·have hR := hR
         rw [decide_eq_false (show ¬ (b' - mid ≥ q8) by omega)] at hR
         refine NW.w ?_
         refine NCall.atA (q2) ?_
         exact Canon.mk [] rfl ⟨mid - a', by omega, a', mid, D.lim, false, apd, (pdq ltI d4 (mid + 1) b' D.lim true true).toList, rfl, by omega, by omega, by omega, by omega, by simp; omega, by rw [toA]; exact bR, by rw [toA, hR], rfl, rfl⟩
      | false =>
       have u := ltF t
       have h87 : (decide (a' > 0) && !ltI D.pi.1[a' - 1]! D.pi.1[D.pivot]!) = true := by rw [hcur, y1, y2, t]; simp; omega
       obtain ⟨mi, d5, hy⟩ : ∃ mi d5, partitionEqual ltI D.pi.1 a' b' D.pivot = (mi, d5) := ⟨_, _, rfl⟩
       obtain ⟨r1, r2, r3, r4, _⟩ := Go.Sort.round_eq swoI (Go.Sort.partitionEqual_holds ltI) (by omega) hpv.1 hpv.2 (by omega) B3 (by rw [hcur, y1, y2, t]) hy
       have heq := heq hp2 h87 (by rw [hy]; exact ⟨r1, r2⟩)
       rw [hy] at ke heq
       dsimp only at ke heq
       refine NW.w ?_
       refine ND.no (by omega) ?_
       refine ND.no (by omega) ?_
       refine NCall.atA (kc) ?_
       refine ND.no (by omega) ?_
       refine NP.mk (by kernel_rfl) ?_
       refine NDr.w _ ?_
       apply NDr.pure
       ·refine ND.yes (by omega) ?_
        exact ⟨rfl, rfl⟩
       refine NDr.w _ ?_
       refine NDr.w _ ?_
       apply NDr.any
       ·intro H'
        exact ⟨rfl, rfl⟩
       refine NDr.w _ ?_
       apply NDr.pure
       ·refine NW.w ?_
        exact ⟨rfl, rfl⟩
       apply NDr.rd [0]
       ·intro fH TH
        refine NP.mk (by (simp only [zLm, zLa, zLr, zLc, zLn, zLt, zLd]; omega)) ?_
        rw [(ea trivial)]
        exact ⟨rfl, rfl⟩
       apply NDr.rd [0]
       ·intro fH TH
        refine NG.map0N (by omega) ?_
        exact ⟨rfl, rfl⟩
       apply NDr.any
       ·intro H'
        exact ⟨rfl, rfl⟩
       refine NDr.w _ ?_
       apply NDr.rd [0]
       ·intro fH TH
        refine NP.mk (by (simp only [zLm, zLa, zLr, zLc, zLn, zLt, zLd]; omega)) ?_
        exact ⟨rfl, rfl⟩
       apply NDr.rd [0]
       ·intro fH TH
        refine NG.map0N (by omega) ?_
        exact ⟨rfl, rfl⟩
       apply NDr.pure
       ·refine NCall.call (b1) rfl rfl ?_
        exact ⟨rfl, rfl⟩
       apply NDr.pure
       ·refine ND.no (by omega) ?_
        exact ⟨rfl, rfl⟩
       refine NDr.w _ ?_
       refine NDr.w _ ?_
       refine NP.mk (by kernel_rfl) ?_
       refine NCall.atA (ke) ?_
       exact Canon.mk [] rfl ⟨b' - mi, by omega, mi, b', D.lim, true, false, d5.toList, rfl, by omega, by omega, by omega, by omega, by simp; omega, by rw [toA]; exact r4, by rw [toA, heq], rfl, rfl⟩
   | true =>
    obtain ⟨hd1, hdl⟩ := hf2 rfl
    have hrow : D.d1.toList.map itemA = e.map itemA := by rw [hd1]
    rw [hrow] at kc kr
    subst hdl
    cases hh : D.c.2 with
    | decreasing =>
     rw [hh] at kc
     rw [show hintCode .decreasing = 2 from rfl] at kc
     obtain ⟨e2, ep, eh⟩ := hdec hh
     rw [← e2] at kr
     have epv : True → ((b' : Int) - 1) - ((D.c.1 : Int) - (a' : Int)) = (D.pivot : Int) := fun _ => by omega
     clear ep
     have epi := hyes (by rw [eh]; rfl)
     rw [← epi] at kp
     cases hp2 : D.pi.2 with
     | true =>
      rw [hp2] at kp
      rw [hdone hp2]
      refine NW.w ?_
      refine ND.no (by omega) ?_
      refine ND.no (by omega) ?_
      refine NCall.atA (kc) ?_
      refine ND.yes (by omega) ?_
      refine NCall.atA (kr) ?_
      refine NW.w ?_
      refine NW.w ?_
      refine NW.w ?_
      rw [(epv trivial)]
      refine ND.yes (by omega) ?_
      refine NCall.atA (kp) ?_
      exact NRet.mk [] rfl ⟨.refl _, rfl⟩
     | false =>
      rw [hp2] at kp
      have hcur : D.pi.1 = (D.pi.1.toList).toArray := (toA _).symm
      have gp : D.pivot < (D.pi.1.toList).length := by omega
      by_cases ha0 : a' = 0
      ·have dec0 : ¬ a' > 0 := by omega
       have h87 : (decide (a' > 0) && !ltI D.pi.1[a' - 1]! D.pi.1[D.pivot]!) = false := by rw [decide_eq_false dec0]; rfl
       have hleft := hleft hp2 h87
       have hright := hright hp2 h87
       by_cases h4 : mid - a' < b' - mid
       ·have hL := hleft h4
        have h4S : mid + mid < a' + b' := by omega
        clear h4
        refine NW.w ?_
        refine ND.no (by omega) ?_
        refine ND.no (by omega) ?_
        refine NCall.atA (kc) ?_
        refine ND.yes (by omega) ?_
        refine NCall.atA (kr) ?_
        refine NW.w ?_
        refine NW.w ?_
        refine NW.w ?_
        rw [(epv trivial)]
        refine ND.yes (by omega) ?_
        refine NCall.atA (kp) ?_
        refine NP.mk (by kernel_rfl) ?_
        refine NDr.w _ ?_
        apply NDr.pure
        ·refine ND.no (by omega) ?_
         exact ⟨rfl, rfl⟩
        refine NDr.w _ ?_
        refine NDr.w _ ?_
        refine NP.mk (by kernel_rfl) ?_
        refine NCall.atA (kd) ?_
        refine NW.w ?_
        refine NW.w ?_
        refine NP.mk (by omega) ?_
        rw [(e8 trivial)]
        refine NW.w ?_
        refine ND.yes (by omega) ?_
        refine NB.dec (fun h8 => ?_) (fun h8 => ?_)
        ·have hL := hL
         rw [decide_eq_true (show mid - a' ≥ q8 by omega)] at hL
         refine NCall.atA (q1) ?_
         refine NW.w ?_
         exact Canon.mk [] rfl ⟨b' - (mid + 1), by omega, mid + 1, b', D.lim, true, apd, (pdq ltI d4 a' mid D.lim true true).toList, rfl, by omega, by omega, by omega, by omega, by simp; omega, by rw [toA]; exact bL, by rw [toA, hL], rfl, rfl⟩
        ·have hL := hL
         rw [decide_eq_false (show ¬ (mid - a' ≥ q8) by omega)] at hL
         refine NCall.atA (q1) ?_
         refine NW.w ?_
         exact Canon.mk [] rfl ⟨b' - (mid + 1), by omega, mid + 1, b', D.lim, false, apd, (pdq ltI d4 a' mid D.lim true true).toList, rfl, by omega, by omega, by omega, by omega, by simp; omega, by rw [toA]; exact bL, by rw [toA, hL], rfl, rfl⟩
       ·rw [show ((mid + 1 : Nat) : Int) = (mid : Int) + 1 by omega] at q2
        have hR := hright h4
        have h4S : ¬ mid + mid < a' + b' := by omega
        clear h4
        refine NW.w ?_
        refine ND.no (by omega) ?_
        refine ND.no (by omega) ?_
        refine NCall.atA (kc) ?_
        refine ND.yes (by omega) ?_
        refine NCall.atA (kr) ?_
        refine NW.w ?_
        refine NW.w ?_
        refine NW.w ?_
        rw [(epv trivial)]
        refine ND.yes (by omega) ?_
        refine NCall.atA (kp) ?_
        refine NP.mk (by kernel_rfl) ?_
        refine NDr.w _ ?_
        apply NDr.pure
        ·refine ND.no (by omega) ?_
         exact ⟨rfl, rfl⟩
        refine NDr.w _ ?_
        refine NDr.w _ ?_
        refine NP.mk (by kernel_rfl) ?_
        refine NCall.atA (kd) ?_
        refine NW.w ?_
        refine NW.w ?_
        refine NP.mk (by omega) ?_
        rw [(e8 trivial)]
        refine NW.w ?_
        refine ND.no (by omega) ?_
        refine NB.dec (fun h8 => ?_) (fun h8 => ?_)
        ·have hR := hR
         rw [decide_eq_true (show b' - mid ≥ q8 by omega)] at hR
         refine NW.w ?_
         refine NCall.atA (q2) ?_
         exact Canon.mk [] rfl ⟨mid - a', by omega, a', mid, D.lim, true, apd, (pdq ltI d4 (mid + 1) b' D.lim true true).toList, rfl, by omega, by omega, by omega, by omega, by simp; omega, by rw [toA]; exact bR, by rw [toA, hR], rfl, rfl⟩
        ·have hR := hR
         rw [decide_eq_false (show ¬ (b' - mid ≥ q8) by omega)] at hR
         refine NW.w ?_
         refine NCall.atA (q2) ?_
         exact Canon.mk [] rfl ⟨mid - a', by omega, a', mid, D.lim, false, apd, (pdq ltI d4 (mid + 1) b' D.lim true true).toList, rfl, by omega, by omega, by omega, by omega, by simp; omega, by rw [toA]; exact bR, by rw [toA, hR], rfl, rfl⟩
      ·have ga : a' - 1 < (D.pi.1.toList).length := by omega
       have ea : True → Int.toNat ((a' : Int) - 1) = a' - 1 := fun _ => by omega
       have b1 := item_compare_walk (D.pi.1.toList)[a' - 1] (D.pi.1.toList)[D.pivot]
       have y1 := getA ga
       have y2 := getA gp
       cases t : ltI (D.pi.1.toList)[a' - 1] (D.pi.1.toList)[D.pivot] with
       | true =>
        have u := ltT t
        have h87 : (decide (a' > 0) && !ltI D.pi.1[a' - 1]! D.pi.1[D.pivot]!) = false := by rw [hcur, y1, y2, t]; simp
        have hleft := hleft hp2 h87
        have hright := hright hp2 h87
        by_cases h4 : mid - a' < b' - mid
        ·have hL := hleft h4
         have h4S : mid + mid < a' + b' := by omega
         clear h4
         refine NW.w ?_
         refine ND.no (by omega) ?_
         refine ND.no (by omega) ?_
         refine NCall.atA (kc) ?_
         refine ND.yes (by omega) ?_
         refine NCall.atA (kr) ?_
         refine NW.w ?_
         refine NW.w ?_
         refine NW.w ?_
         rw [(epv trivial)]
         refine ND.yes (by omega) ?_
         refine NCall.atA (kp) ?_
         refine NP.mk (by kernel_rfl) ?_
         refine NDr.w _ ?_
         apply NDr.pure
         ·refine ND.yes (by omega) ?_
          exact ⟨rfl, rfl⟩
         refine NDr.w _ ?_
         refine NDr.w _ ?_
         apply NDr.any
         ·intro H'
          exact ⟨rfl, rfl⟩
         refine NDr.w _ ?_
         apply NDr.pure
         ·refine NW.w ?_
          exact ⟨rfl, rfl⟩
         apply NDr.rd [0]
         ·intro fH TH
          refine NP.mk (by (simp only [zLm, zLa, zLr, zLc, zLn, zLt, zLd]; omega)) ?_
          rw [(ea trivial)]
          exact ⟨rfl, rfl⟩
         apply NDr.rd [0]
         ·intro fH TH
          refine NG.map0N (by omega) ?_
          exact ⟨rfl, rfl⟩
         apply NDr.any
         ·intro H'
          exact ⟨rfl, rfl⟩
         refine NDr.w _ ?_
         apply NDr.rd [0]
         ·intro fH TH
          refine NP.mk (by (simp only [zLm, zLa, zLr, zLc, zLn, zLt, zLd]; omega)) ?_
          exact ⟨rfl, rfl⟩
         apply NDr.rd [0]
         ·intro fH TH
          refine NG.map0N (by omega) ?_
          exact ⟨rfl, rfl⟩
         apply NDr.pure
         ·refine NCall.call (b1) rfl rfl ?_
          exact ⟨rfl, rfl⟩
         apply NDr.pure
         ·refine ND.yes (by omega) ?_
          exact ⟨rfl, rfl⟩
         refine NDr.w _ ?_
         refine NDr.w _ ?_
         refine NP.mk (by kernel_rfl) ?_
         refine NCall.atA (kd) ?_
         refine NW.w ?_
         refine NW.w ?_
         refine NP.mk (by omega) ?_
         rw [(e8 trivial)]
         refine NW.w ?_
         refine ND.yes (by omega) ?_
         refine NB.dec (fun h8 => ?_) (fun h8 => ?_)
         ·have hL := hL
          rw [decide_eq_true (show mid - a' ≥ q8 by omega)] at hL
          refine NCall.atA (q1) ?_
          refine NW.w ?_
          exact Canon.mk [] rfl ⟨b' - (mid + 1), by omega, mid + 1, b', D.lim, true, apd, (pdq ltI d4 a' mid D.lim true true).toList, rfl, by omega, by omega, by omega, by omega, by simp; omega, by rw [toA]; exact bL, by rw [toA, hL], rfl, rfl⟩
         ·have hL := hL
          rw [decide_eq_false (show ¬ (mid - a' ≥ q8) by omega)] at hL
          refine NCall.atA (q1) ?_
          refine NW.w ?_
          exact Canon.mk [] rfl ⟨b' - (mid + 1), by omega, mid + 1, b', D.lim, false, apd, (pdq ltI d4 a' mid D.lim true true).toList, rfl, by omega, by omega, by omega, by omega, by simp; omega, by rw [toA]; exact bL, by rw [toA, hL], rfl, rfl⟩
        ·rw [show ((mid + 1 : Nat) : Int) = (mid : Int) + 1 by omega] at q2
         have hR := hright h4
         have h4S : ¬ mid + mid < a' + b' := by omega
         clear h4
         refine NW.w ?_
         refine ND.no (by omega) ?_
         refine ND.no (by omega) ?_
         refine NCall.atA (kc) ?_
         refine ND.yes (by omega) ?_
         refine NCall.atA (kr) ?_
         refine NW.w ?_
         refine NW.w ?_
         refine NW.w ?_
         rw [(epv trivial)]
         refine ND.yes (by omega) ?_
         refine NCall.atA (kp) ?_
         refine NP.mk (by kernel_rfl) ?_
         refine NDr.w _ ?_
         apply NDr.pure
         ·refine ND.yes (by omega) ?_
          exact ⟨rfl, rfl⟩
         refine NDr.w _ ?_
         refine NDr.w _ ?_
         apply NDr.any
         ·intro H'
          exact ⟨rfl, rfl⟩
         refine NDr.w _ ?_
         apply NDr.pure
         ·refine NW.w ?_
          exact ⟨rfl, rfl⟩
         apply NDr.rd [0]
         ·intro fH TH
          refine NP.mk (by (simp only [zLm, zLa, zLr, zLc, zLn, zLt, zLd]; omega)) ?_
          rw [(ea trivial)]
          exact ⟨rfl, rfl⟩
         apply NDr.rd [0]
         ·intro fH TH
          refine NG.map0N (by omega) ?_
          exact ⟨rfl, rfl⟩
         apply NDr.any
         ·intro H'
          exact ⟨rfl, rfl⟩
         refine NDr.w _ ?_
         apply NDr.rd [0]
         ·intro fH TH
          refine NP.mk (by (simp only [zLm, zLa, zLr, zLc, zLn, zLt, zLd]; omega)) ?_
          exact ⟨rfl, rfl⟩
         apply NDr.rd [0]
         ·intro fH TH
          refine NG.map0N (by omega) ?_
          exact ⟨rfl, rfl⟩
         apply NDr.pure
         ·refine NCall.call (b1) rfl rfl ?_
          exact ⟨rfl, rfl⟩
         apply NDr.pure
         ·refine ND.yes (by omega) ?_
          exact ⟨rfl, rfl⟩
         refine NDr.w _ ?_
         refine NDr.w _ ?_
         refine NP.mk (by kernel_rfl) ?_
         refine NCall.atA (kd) ?_
         refine NW.w ?_
         refine NW.w ?_
         refine NP.mk (by omega) ?_
         rw [(e8 trivial)]
         refine NW.w ?_
         refine ND.no (by omega) ?_
         refine NB.dec (fun h8 => ?_) (fun h8 => ?_)
         ·have hR := hR
          rw [decide_eq_true (show b' - mid ≥ q8 by omega)] at hR
          refine NW.w ?_
          refine NCall.atA (q2) ?_
          exact Canon.mk [] rfl ⟨mid - a', by omega, a', mid, D.lim, true, apd, (pdq ltI d4 (mid + 1) b' D.lim true true).toList, rfl, by omega, by omega, by omega, by omega, by simp; omega, by rw [toA]; exact bR, by rw [toA, hR], rfl, rfl⟩
         ·have hR := hR
          rw [decide_eq_false (show ¬ (b' - mid ≥ q8) by omega)] at hR
          refine NW.w ?_
          refine NCall.atA (q2) ?_
          exact Canon.mk [] rfl ⟨mid - a', by omega, a', mid, D.lim, false, apd, (pdq ltI d4 (mid + 1) b' D.lim true true).toList, rfl, by omega, by omega, by omega, by omega, by simp; omega, by rw [toA]; exact bR, by rw [toA, hR], rfl, rfl⟩
       | false =>
        have u := ltF t
        have h87 : (decide (a' > 0) && !ltI D.pi.1[a' - 1]! D.pi.1[D.pivot]!) = true := by rw [hcur, y1, y2, t]; simp; omega
        obtain ⟨mi, d5, hy⟩ : ∃ mi d5, partitionEqual ltI D.pi.1 a' b' D.pivot = (mi, d5) := ⟨_, _, rfl⟩
        obtain ⟨r1, r2, r3, r4, _⟩ := Go.Sort.round_eq swoI (Go.Sort.partitionEqual_holds ltI) (by omega) hpv.1 hpv.2 (by omega) B3 (by rw [hcur, y1, y2, t]) hy
        have heq := heq hp2 h87 (by rw [hy]; exact ⟨r1, r2⟩)
        rw [hy] at ke heq
        dsimp only at ke heq
        refine NW.w ?_
        refine ND.no (by omega) ?_
        refine ND.no (by omega) ?_
        refine NCall.atA (kc) ?_
        refine ND.yes (by omega) ?_
        refine NCall.atA (kr) ?_
        refine NW.w ?_
        refine NW.w ?_
        refine NW.w ?_
        rw [(epv trivial)]
        refine ND.yes (by omega) ?_
        refine NCall.atA (kp) ?_
        refine NP.mk (by kernel_rfl) ?_
        refine NDr.w _ ?_
        apply NDr.pure
        ·refine ND.yes (by omega) ?_
         exact ⟨rfl, rfl⟩
        refine NDr.w _ ?_
        refine NDr.w _ ?_
        apply NDr.any
        ·intro H'
         exact ⟨rfl, rfl⟩
        refine NDr.w _ ?_
        apply NDr.pure
        ·refine NW.w ?_
         exact ⟨rfl, rfl⟩
        apply NDr.rd [0]
        ·intro fH TH
         refine NP.mk (by (simp only [zLm, zLa, zLr, zLc, zLn, zLt, zLd]; omega)) ?_
         rw [(ea trivial)]
         exact ⟨rfl, rfl⟩
        apply NDr.rd [0]
        ·intro fH TH
         refine NG.map0N (by omega) ?_
         exact ⟨rfl, rfl⟩
        apply NDr.any
        ·intro H'
         exact ⟨rfl, rfl⟩
        refine NDr.w _ ?_
        apply NDr.rd [0]
        ·intro fH TH
         refine NP.mk (by (simp only [zLm, zLa, zLr, zLc, zLn, zLt, zLd]; omega)) ?_
         exact ⟨rfl, rfl⟩
        apply NDr.rd [0]
        ·intro fH TH
         refine NG.map0N (by omega) ?_
         exact ⟨rfl, rfl⟩
        apply NDr.pure
        ·refine NCall.call (b1) rfl rfl ?_
         exact ⟨rfl, rfl⟩
        apply NDr.pure
        ·refine ND.no (by omega) ?_
         exact ⟨rfl, rfl⟩
        refine NDr.w _ ?_
        refine NDr.w _ ?_
        refine NP.mk (by kernel_rfl) ?_
        refine NCall.atA (ke) ?_
        exact Canon.mk [] rfl ⟨b' - mi, by omega, mi, b', D.lim, true, true, d5.toList, rfl, by omega, by omega, by omega, by omega, by simp; omega, by rw [toA]; exact r4, by rw [toA, heq], rfl, rfl⟩
    | increasing =>
     rw [hh] at kc
     rw [show hintCode .increasing = 1 from rfl] at kc
     obtain ⟨e2, ep, eh⟩ := hnot (by rw [hh]; simp)
     rw [hh] at eh
     rw [← ep] at kc
     have epi := hyes (by rw [eh]; rfl)
     rw [← epi] at kp
     have hrow2 : D.d2.toList.map itemA = e.map itemA := by rw [e2, hd1]
     rw [hrow2] at kp
     cases hp2 : D.pi.2 with
     | true =>
      rw [hp2] at kp
      rw [hdone hp2]
      refine NW.w ?_
      refine ND.no (by omega) ?_
      refine ND.no (by omega) ?_
      refine NCall.atA (kc) ?_
      refine ND.no (by omega) ?_
      refine ND.yes (by omega) ?_
      refine NCall.atA (kp) ?_
      exact NRet.mk [] rfl ⟨.refl _, rfl⟩
     | false =>
      rw [hp2] at kp
      have hcur : D.pi.1 = (D.pi.1.toList).toArray := (toA _).symm
      have gp : D.pivot < (D.pi.1.toList).length := by omega
      by_cases ha0 : a' = 0
      ·have dec0 : ¬ a' > 0 := by omega
       have h87 : (decide (a' > 0) && !ltI D.pi.1[a' - 1]! D.pi.1[D.pivot]!) = false := by rw [decide_eq_false dec0]; rfl
       have hleft := hleft hp2 h87
       have hright := hright hp2 h87
       by_cases h4 : mid - a' < b' - mid
       ·have hL := hleft h4
        have h4S : mid + mid < a' + b' := by omega
        clear h4
        refine NW.w ?_
        refine ND.no (by omega) ?_
        refine ND.no (by omega) ?_
        refine NCall.atA (kc) ?_
        refine ND.no (by omega) ?_
        refine ND.yes (by omega) ?_
        refine NCall.atA (kp) ?_
        refine NP.mk (by kernel_rfl) ?_
        refine NDr.w _ ?_
        apply NDr.pure
        ·refine ND.no (by omega) ?_
         exact ⟨rfl, rfl⟩
        refine NDr.w _ ?_
        refine NDr.w _ ?_
        refine NP.mk (by kernel_rfl) ?_
        refine NCall.atA (kd) ?_
        refine NW.w ?_
        refine NW.w ?_
        refine NP.mk (by omega) ?_
        rw [(e8 trivial)]
        refine NW.w ?_
        refine ND.yes (by omega) ?_
        refine NB.dec (fun h8 => ?_) (fun h8 => ?_)
        ·have hL := hL
         rw [decide_eq_true (show mid - a' ≥ q8 by omega)] at hL
         refine NCall.atA (q1) ?_
         refine NW.w ?_
         exact Canon.mk [] rfl ⟨b' - (mid + 1), by omega, mid + 1, b', D.lim, true, apd, (pdq ltI d4 a' mid D.lim true true).toList, rfl, by omega, by omega, by omega, by omega, by simp; omega, by rw [toA]; exact bL, by rw [toA, hL], rfl, rfl⟩
        ·have hL := hL
         rw [decide_eq_false (show ¬ (mid - a' ≥ q8) by omega)] at hL
         refine NCall.atA (q1) ?_
         refine NW.w ?_
         exact Canon.mk [] rfl ⟨b' - (mid + 1), by omega, mid + 1, b', D.lim, false, apd, (pdq ltI d4 a' mid D.lim true true).toList, rfl, by omega, by omega, by omega, by omega, by simp; omega, by rw [toA]; exact bL, by rw [toA, hL], rfl, rfl⟩
       ·rw [show ((mid + 1 : Nat) : Int) = (mid : Int) + 1 by omega] at q2
        have hR := hright h4
        have h4S : ¬ mid + mid < a' + b' := by omega
        clear h4
        refine NW.w ?_
        refine ND.no (by omega) ?_
        refine ND.no (by omega) ?_
        refine NCall.atA (kc) ?_
        refine ND.no (by omega) ?_
        refine ND.yes (by omega) ?_
        refine NCall.atA (kp) ?_
        refine NP.mk (by kernel_rfl) ?_
        refine NDr.w _ ?_
        apply NDr.pure
        ·refine ND.no (by omega) ?_
         exact ⟨rfl, rfl⟩
        refine NDr.w _ ?_
        refine NDr.w _ ?_
        refine NP.mk (by kernel_rfl) ?_
        refine NCall.atA (kd) ?_
        refine NW.w ?_
        refine NW.w ?_
        refine NP.mk (by omega) ?_
        rw [(e8 trivial)]
        refine NW.w ?_
        refine ND.no (by omega) ?_
        refine NB.dec (fun h8 => ?_) (fun h8 => ?_)
        ·have hR := hR
         rw [decide_eq_true (show b' - mid ≥ q8 by omega)] at hR
         refine NW.w ?_
         refine NCall.atA (q2) ?_
         exact Canon.mk [] rfl ⟨mid - a', by omega, a', mid, D.lim, true, apd, (pdq ltI d4 (mid + 1) b' D.lim true true).toList, rfl, by omega, by omega, by omega, by omega, by simp; omega, by rw [toA]; exact bR, by rw [toA, hR], rfl, rfl⟩
        ·have hR := hR
         rw [decide_eq_false (show ¬ (b' - mid ≥ q8) by omega)] at hR
         refine NW.w ?_
         refine NCall.atA (q2) ?_
         exact Canon.mk [] rfl ⟨mid - a', by omega, a', mid, D.lim, false, apd, (pdq ltI d4 (mid + 1) b' D.lim true true).toList, rfl, by omega, by omega, by omega, by omega, by simp; omega, by rw [toA]; exact bR, by rw [toA, hR], rfl, rfl⟩
      ·have ga : a' - 1 < (D.pi.1.toList).length := by omega
       have ea : True → Int.toNat ((a' : Int) - 1) = a' - 1 := fun _ => by omega
       have b1 := item_compare_walk (D.pi.1.toList)[a' - 1] (D.pi.1.toList)[D.pivot]
       have y1 := getA ga
       have y2 := getA gp
       cases t : ltI (D.pi.1.toList)[a' - 1] (D.pi.1.toList)[D.pivot] with
       | true =>
        have u := ltT t
        have h87 : (decide (a' > 0) && !ltI D.pi.1[a' - 1]! D.pi.1[D.pivot]!) = false := by rw [hcur, y1, y2, t]; simp
        have hleft := hleft hp2 h87
        have hright := hright hp2 h87
        by_cases h4 : mid - a' < b' - mid
        ·have hL := hleft h4
         have h4S : mid + mid < a' + b' := by omega
         clear h4
         refine NW.w ?_
         refine ND.no (by omega) ?_
         refine ND.no (by omega) ?_
         refine NCall.atA (kc) ?_
         refine ND.no (by omega) ?_
         refine ND.yes (by omega) ?_
         refine NCall.atA (kp) ?_
         refine NP.mk (by kernel_rfl) ?_
         refine NDr.w _ ?_
         apply NDr.pure
         ·refine ND.yes (by omega) ?_
          exact ⟨rfl, rfl⟩
         refine NDr.w _ ?_
         refine NDr.w _ ?_
         apply NDr.any
         ·intro H'
          exact ⟨rfl, rfl⟩
         refine NDr.w _ ?_
         apply NDr.pure
         ·refine NW.w ?_
          exact ⟨rfl, rfl⟩
         apply NDr.rd [0]
         ·intro fH TH
          refine NP.mk (by (simp only [zLm, zLa, zLr, zLc, zLn, zLt, zLd]; omega)) ?_
          rw [(ea trivial)]
          exact ⟨rfl, rfl⟩
         apply NDr.rd [0]
         ·intro fH TH
          refine NG.map0N (by omega) ?_
          exact ⟨rfl, rfl⟩
         apply NDr.any
         ·intro H'
          exact ⟨rfl, rfl⟩
         refine NDr.w _ ?_
         apply NDr.rd [0]
         ·intro fH TH
          refine NP.mk (by (simp only [zLm, zLa, zLr, zLc, zLn, zLt, zLd]; omega)) ?_
          exact ⟨rfl, rfl⟩
         apply NDr.rd [0]
         ·intro fH TH
          refine NG.map0N (by omega) ?_
          exact ⟨rfl, rfl⟩
         apply NDr.pure
         ·refine NCall.call (b1) rfl rfl ?_
          exact ⟨rfl, rfl⟩
         apply NDr.pure
         ·refine ND.yes (by omega) ?_
          exact ⟨rfl, rfl⟩
         refine NDr.w _ ?_
         refine NDr.w _ ?_
         refine NP.mk (by kernel_rfl) ?_
         refine NCall.atA (kd) ?_
         refine NW.w ?_
         refine NW.w ?_
         refine NP.mk (by omega) ?_
         rw [(e8 trivial)]
         refine NW.w ?_
         refine ND.yes (by omega) ?_
         refine NB.dec (fun h8 => ?_) (fun h8 => ?_)
         ·have hL := hL
          rw [decide_eq_true (show mid - a' ≥ q8 by omega)] at hL
          refine NCall.atA (q1) ?_
          refine NW.w ?_
          exact Canon.mk [] rfl ⟨b' - (mid + 1), by omega, mid + 1, b', D.lim, true, apd, (pdq ltI d4 a' mid D.lim true true).toList, rfl, by omega, by omega, by omega, by omega, by simp; omega, by rw [toA]; exact bL, by rw [toA, hL], rfl, rfl⟩
         ·have hL := hL
          rw [decide_eq_false (show ¬ (mid - a' ≥ q8) by omega)] at hL
          refine NCall.atA (q1) ?_
          refine NW.w ?_
          exact Canon.mk [] rfl ⟨b' - (mid + 1), by omega, mid + 1, b', D.lim, false, apd, (pdq ltI d4 a' mid D.lim true true).toList, rfl, by omega, by omega, by omega, by omega, by simp; omega, by rw [toA]; exact bL, by rw [toA, hL], rfl, rfl⟩
        ·rw [show ((mid + 1 : Nat) : Int) = (mid : Int) + 1 by omega] at q2
         have hR := hright h4
         have h4S : ¬ mid + mid < a' + b' := by omega
         clear h4
         refine NW.w ?_
         refine ND.no (by omega) ?_
         refine ND.no (by omega) ?_
         refine NCall.atA (kc) ?_
         refine ND.no (by omega) ?_
         refine ND.yes (by omega) ?_
         refine NCall.atA (kp) ?_
         refine NP.mk (by kernel_rfl) ?_
         refine NDr.w _ ?_
         apply NDr.pure
         ·refine ND.yes (by omega) ?_
          exact ⟨rfl, rfl⟩
         refine NDr.w _ ?_
         refine NDr.w _ ?_
         apply NDr.any
         ·intro H'
          exact ⟨rfl, rfl⟩
         refine NDr.w _ ?_
         apply NDr.pure
         ·refine NW.w ?_
          exact ⟨rfl, rfl⟩
         apply NDr.rd [0]
         ·intro fH TH
          refine NP.mk (by (simp only [zLm, zLa, zLr, zLc, zLn, zLt, zLd]; omega)) ?_
          rw [(ea trivial)]
          exact ⟨rfl, rfl⟩
         apply NDr.rd [0]
         ·intro fH TH
          refine NG.map0N (by omega) ?_
          exact ⟨rfl, rfl⟩
         apply NDr.any
         ·intro H'
          exact ⟨rfl, rfl⟩
         refine NDr.w _ ?_
         apply NDr.rd [0]
         ·intro fH TH
          refine NP.mk (by (simp only [zLm, zLa, zLr, zLc, zLn, zLt, zLd]; omega)) ?_
          exact ⟨rfl, rfl⟩
         apply NDr.rd [0]
         ·intro fH TH
          refine NG.map0N (by omega) ?_
          exact ⟨rfl, rfl⟩
         apply NDr.pure
         ·refine NCall.call (b1) rfl rfl ?_
          exact ⟨rfl, rfl⟩
         apply NDr.pure
         ·refine ND.yes (by omega) ?_
          exact ⟨rfl, rfl⟩
         refine NDr.w _ ?_
         refine NDr.w _ ?_
         refine NP.mk (by kernel_rfl) ?_
         refine NCall.atA (kd) ?_
         refine NW.w ?_
         refine NW.w ?_
         refine NP.mk (by omega) ?_
         rw [(e8 trivial)]
         refine NW.w ?_
         refine ND.no (by omega) ?_
         refine NB.dec (fun h8 => ?_) (fun h8 => ?_)
         ·have hR := hR
          rw [decide_eq_true (show b' - mid ≥ q8 by omega)] at hR
          refine NW.w ?_
          refine NCall.atA (q2) ?_
          exact Canon.mk [] rfl ⟨mid - a', by omega, a', mid, D.lim, true, apd, (pdq ltI d4 (mid + 1) b' D.lim true true).toList, rfl, by omega, by omega, by omega, by omega, by simp; omega, by rw [toA]; exact bR, by rw [toA, hR], rfl, rfl⟩
         ·have hR := hR
          rw [decide_eq_false (show ¬ (b' - mid ≥ q8) by omega)] at hR
          refine NW.w ?_
          refine NCall.atA (q2) ?_
          exact Canon.mk [] rfl ⟨mid - a', by omega, a', mid, D.lim, false, apd, (pdq ltI d4 (mid + 1) b' D.lim true true).toList, rfl, by omega, by omega, by omega, by omega, by simp; omega, by rw [toA]; exact bR, by rw [toA, hR], rfl, rfl⟩
       | false =>
        have u := ltF t
        have h87 : (decide (a' > 0) && !ltI D.pi.1[a' - 1]! D.pi.1[D.pivot]!) = true := by rw [hcur, y1, y2, t]; simp; omega
        obtain ⟨mi, d5, hy⟩ : ∃ mi d5, partitionEqual ltI D.pi.1 a' b' D.pivot = (mi, d5) := ⟨_, _, rfl⟩
        obtain ⟨r1, r2, r3, r4, _⟩ := Go.Sort.round_eq swoI (Go.Sort.partitionEqual_holds ltI) (by omega) hpv.1 hpv.2 (by omega) B3 (by rw [hcur, y1, y2, t]) hy
        have heq := heq hp2 h87 (by rw [hy]; exact ⟨r1, r2⟩)
        rw [hy] at ke heq
        dsimp only at ke heq
        refine NW.w ?_
        refine ND.no (by omega) ?_
        refine ND.no (by omega) ?_
        refine NCall.atA (kc) ?_
        refine ND.no (by omega) ?_
        refine ND.yes (by omega) ?_
        refine NCall.atA (kp) ?_
        refine NP.mk (by kernel_rfl) ?_
        refine NDr.w _ ?_
        apply NDr.pure
        ·refine ND.yes (by omega) ?_
         exact ⟨rfl, rfl⟩
        refine NDr.w _ ?_
        refine NDr.w _ ?_
        apply NDr.any
        ·intro H'
         exact ⟨rfl, rfl⟩
        refine NDr.w _ ?_
        apply NDr.pure
        ·refine NW.w ?_
         exact ⟨rfl, rfl⟩
        apply NDr.rd [0]
        ·intro fH TH
         refine NP.mk (by (simp only [zLm, zLa, zLr, zLc, zLn, zLt, zLd]; omega)) ?_
         rw [(ea trivial)]
         exact ⟨rfl, rfl⟩
        apply NDr.rd [0]
        ·intro fH TH
         refine NG.map0N (by omega) ?_
         exact ⟨rfl, rfl⟩
        apply NDr.any
        ·intro H'
         exact ⟨rfl, rfl⟩
        refine NDr.w _ ?_
        apply NDr.rd [0]
        ·intro fH TH
         refine NP.mk (by (simp only [zLm, zLa, zLr, zLc, zLn, zLt, zLd]; omega)) ?_
         exact ⟨rfl, rfl⟩
        apply NDr.rd [0]
        ·intro fH TH
         refine NG.map0N (by omega) ?_
         exact ⟨rfl, rfl⟩
        apply NDr.pure
        ·refine NCall.call (b1) rfl rfl ?_
         exact ⟨rfl, rfl⟩
        apply NDr.pure
        ·refine ND.no (by omega) ?_
         exact ⟨rfl, rfl⟩
        refine NDr.w _ ?_
        refine NDr.w _ ?_
        refine NP.mk (by kernel_rfl) ?_
        refine NCall.atA (ke) ?_
        exact Canon.mk [] rfl ⟨b' - mi, by omega, mi, b', D.lim, true, true, d5.toList, rfl, by omega, by omega, by omega, by omega, by simp; omega, by rw [toA]; exact r4, by rw [toA, heq], rfl, rfl⟩
    | unknown =>
     rw [hh] at kc
     rw [show hintCode .unknown = 0 from rfl] at kc
     obtain ⟨e2, ep, eh⟩ := hnot (by rw [hh]; simp)
     rw [hh] at eh
     rw [← ep] at kc
     have epi := hno (by rw [eh]; rfl)
     have hp2 : D.pi.2 = false := by rw [epi]
     have hrow3 : D.pi.1.toList.map itemA = e.map itemA := by rw [epi, e2, hd1]
     rw [hrow3] at kd ke
     have hcur : D.pi.1 = (e).toArray := by rw [epi, e2, hd1]
     have gp : D.pivot < (e).length := by omega
     by_cases ha0 : a' = 0
     ·have dec0 : ¬ a' > 0 := by omega
      have h87 : (decide (a' > 0) && !ltI D.pi.1[a' - 1]! D.pi.1[D.pivot]!) = false := by rw [decide_eq_false dec0]; rfl
      have hleft := hleft hp2 h87
      have hright := hright hp2 h87
      by_cases h4 : mid - a' < b' - mid
      ·have hL := hleft h4
       have h4S : mid + mid < a' + b' := by omega
       clear h4
       refine NW.w ?_
       refine ND.no (by omega) ?_
       refine ND.no (by omega) ?_
       refine NCall.atA (kc) ?_
       refine ND.no (by omega) ?_
       refine ND.no (by omega) ?_
       refine NP.mk (by kernel_rfl) ?_
       refine NDr.w _ ?_
       apply NDr.pure
       ·refine ND.no (by omega) ?_
        exact ⟨rfl, rfl⟩
       refine NDr.w _ ?_
       refine NDr.w _ ?_
       refine NP.mk (by kernel_rfl) ?_
       refine NCall.atA (kd) ?_
       refine NW.w ?_
       refine NW.w ?_
       refine NP.mk (by omega) ?_
       rw [(e8 trivial)]
       refine NW.w ?_
       refine ND.yes (by omega) ?_
       refine NB.dec (fun h8 => ?_) (fun h8 => ?_)
       ·have hL := hL
        rw [decide_eq_true (show mid - a' ≥ q8 by omega)] at hL
        refine NCall.atA (q1) ?_
        refine NW.w ?_
        exact Canon.mk [] rfl ⟨b' - (mid + 1), by omega, mid + 1, b', D.lim, true, apd, (pdq ltI d4 a' mid D.lim true true).toList, rfl, by omega, by omega, by omega, by omega, by simp; omega, by rw [toA]; exact bL, by rw [toA, hL], rfl, rfl⟩
       ·have hL := hL
        rw [decide_eq_false (show ¬ (mid - a' ≥ q8) by omega)] at hL
        refine NCall.atA (q1) ?_
        refine NW.w ?_
        exact Canon.mk [] rfl ⟨b' - (mid + 1), by omega, mid + 1, b', D.lim, false, apd, (pdq ltI d4 a' mid D.lim true true).toList, rfl, by omega, by omega, by omega, by omega, by simp; omega, by rw [toA]; exact bL, by rw [toA, hL], rfl, rfl⟩
      ·rw [show ((mid + 1 : Nat) : Int) = (mid : Int) + 1 by omega] at q2
       have hR := hright h4
       have h4S : ¬ mid + mid < a' + b' := by omega
       clear h4
       refine NW.w ?_
       refine ND.no (by omega) ?_
       refine ND.no (by omega) ?_
       refine NCall.atA (kc) ?_
       refine ND.no (by omega) ?_
       refine ND.no (by omega) ?_
       refine NP.mk (by kernel_rfl) ?_
       refine NDr.w _ ?_
       apply NDr.pure
       ·refine ND.no (by omega) ?_
        exact ⟨rfl, rfl⟩
       refine NDr.w _ ?_
       refine NDr.w _ ?_
       refine NP.mk (by kernel_rfl) ?_
       refine NCall.atA (kd) ?_
       refine NW.w ?_
       refine NW.w ?_
       refine NP.mk (by omega) ?_
       rw [(e8 trivial)]
       refine NW.w ?_
       refine ND.no (by omega) ?_
       refine NB.dec (fun h8 => ?_) (fun h8 => ?_)
       ·have hR := hR
        rw [decide_eq_true (show b' - mid ≥ q8 by omega)] at hR
        refine NW.w ?_
        refine NCall.atA (q2) ?_
        exact Canon.mk [] rfl ⟨mid - a', by omega, a', mid, D.lim, true, apd, (pdq ltI d4 (mid + 1) b' D.lim true true).toList, rfl, by omega, by omega, by omega, by omega, by simp; omega, by rw [toA]; exact bR, by rw [toA, hR], rfl, rfl⟩
       ·have hR := hR
        rw [decide_eq_false (show ¬ (b' - mid ≥ q8) by omega)] at hR
        refine NW.w ?_
        refine NCall.atA (q2) ?_
        exact Canon.mk [] rfl ⟨mid - a', by omega, a', mid, D.lim, false, apd, (pdq ltI d4 (mid + 1) b' D.lim true true).toList, rfl, by omega, by omega, by omega, by omega, by simp; omega, by rw [toA]; exact bR, by rw [toA, hR], rfl, rfl⟩
     ·have ga : a' - 1 < (e).length := by omega
      have ea : True → Int.toNat ((a' : Int) - 1) = a' - 1 := fun _ => by omega
      have b1 := item_compare_walk (e)[a' - 1] (e)[D.pivot]
      have y1 := getA ga
      have y2 := getA gp
      cases t : ltI (e)[a' - 1] (e)[D.pivot] with
      | true =>
       have u := ltT t
       have h87 : (decide (a' > 0) && !ltI D.pi.1[a' - 1]! D.pi.1[D.pivot]!) = false := by rw [hcur, y1, y2, t]; simp
       have hleft := hleft hp2 h87
       have hright := hright hp2 h87
       by_cases h4 : mid - a' < b' - mid
       ·have hL := hleft h4
        have h4S : mid + mid < a' + b' := by omega
        clear h4
        refine NW.w ?_
        refine ND.no (by omega) ?_
        refine ND.no (by omega) ?_
        refine NCall.atA (kc) ?_
        refine ND.no (by omega) ?_
        refine ND.no (by omega) ?_
        refine NP.mk (by kernel_rfl) ?_
        refine NDr.w _ ?_
        apply NDr.pure
        ·refine ND.yes (by omega) ?_
         exact ⟨rfl, rfl⟩
        refine NDr.w _ ?_
        refine NDr.w _ ?_
        apply NDr.any
        ·intro H'
         exact ⟨rfl, rfl⟩
        refine NDr.w _ ?_
        apply NDr.pure
        ·refine NW.w ?_
         exact ⟨rfl, rfl⟩
        apply NDr.rd [0]
        ·intro fH TH
         refine NP.mk (by (simp only [zLm, zLa, zLr, zLc, zLn, zLt, zLd]; omega)) ?_
         rw [(ea trivial)]
         exact ⟨rfl, rfl⟩
        apply NDr.rd [0]
        ·intro fH TH
         refine NG.map0N (by omega) ?_
         exact ⟨rfl, rfl⟩
        apply NDr.any
        ·intro H'
         exact ⟨rfl, rfl⟩
        refine NDr.w _ ?_
        apply NDr.rd [0]
        ·intro fH TH
         refine NP.mk (by (simp only [zLm, zLa, zLr, zLc, zLn, zLt, zLd]; omega)) ?_
         exact ⟨rfl, rfl⟩
        apply NDr.rd [0]
        ·intro fH TH
         refine NG.map0N (by omega) ?_
         exact ⟨rfl, rfl⟩
        apply NDr.pure
        ·refine NCall.call (b1) rfl rfl ?_
         exact ⟨rfl, rfl⟩
        apply NDr.pure
        ·refine ND.yes (by omega) ?_
         exact ⟨rfl, rfl⟩
        refine NDr.w _ ?_
        refine NDr.w _ ?_
        refine NP.mk (by kernel_rfl) ?_
        refine NCall.atA (kd) ?_
        refine NW.w ?_
        refine NW.w ?_
        refine NP.mk (by omega) ?_
        rw [(e8 trivial)]
        refine NW.w ?_
        refine ND.yes (by omega) ?_
        refine NB.dec (fun h8 => ?_) (fun h8 => ?_)
        ·have hL := hL
         rw [decide_eq_true (show mid - a' ≥ q8 by omega)] at hL
         refine NCall.atA (q1) ?_
         refine NW.w ?_
         exact Canon.mk [] rfl ⟨b' - (mid + 1), by omega, mid + 1, b', D.lim, true, apd, (pdq ltI d4 a' mid D.lim true true).toList, rfl, by omega, by omega, by omega, by omega, by simp; omega, by rw [toA]; exact bL, by rw [toA, hL], rfl, rfl⟩
        ·have hL := hL
         rw [decide_eq_false (show ¬ (mid - a' ≥ q8) by omega)] at hL
         refine NCall.atA (q1) ?_
         refine NW.w ?_
         exact Canon.mk [] rfl ⟨b' - (mid + 1), by omega, mid + 1, b', D.lim, false, apd, (pdq ltI d4 a' mid D.lim true true).toList, rfl, by omega, by omega, by omega, by omega, by simp; omega, by rw [toA]; exact bL, by rw [toA, hL], rfl, rfl⟩
       ·rw [show ((mid + 1 : Nat) : Int) = (mid : Int) + 1 by omega] at q2
        have hR := hright h4
        have h4S : ¬ mid + mid < a' + b' := by omega
        clear h4
        refine NW.w ?_
        refine ND.no (by omega) ?_
        refine ND.no (by omega) ?_
        refine NCall.atA (kc) ?_
        refine ND.no (by omega) ?_
        refine ND.no (by omega) ?_
        refine NP.mk (by kernel_rfl) ?_
        refine NDr.w _ ?_
        apply NDr.pure
        ·refine ND.yes (by omega) ?_
         exact ⟨rfl, rfl⟩
        refine NDr.w _ ?_
        refine NDr.w _ ?_
        apply NDr.any
        ·intro H'
         exact ⟨rfl, rfl⟩
        refine NDr.w _ ?_
        apply NDr.pure
        ·refine NW.w ?_
         exact ⟨rfl, rfl⟩
        apply NDr.rd [0]
        ·intro fH TH
         refine NP.mk (by (simp only [zLm, zLa, zLr, zLc, zLn, zLt, zLd]; omega)) ?_
         rw [(ea trivial)]
         exact ⟨rfl, rfl⟩
        apply NDr.rd [0]
        ·intro fH TH
         refine NG.map0N (by omega) ?_
         exact ⟨rfl, rfl⟩
        apply NDr.any
        ·intro H'
         exact ⟨rfl, rfl⟩
        refine NDr.w _ ?_
        apply NDr.rd [0]
        ·intro fH TH
         refine NP.mk (by (simp only [zLm, zLa, zLr, zLc, zLn, zLt, zLd]; omega)) ?_
         exact ⟨rfl, rfl⟩
        apply NDr.rd [0]
        ·intro fH TH
         refine NG.map0N (by omega) ?_
         exact ⟨rfl, rfl⟩
        apply NDr.pure
        ·refine NCall.call (b1) rfl rfl ?_
         exact ⟨rfl, rfl⟩
        apply NDr.pure
        ·refine ND.yes (by omega) ?_
         exact ⟨rfl, rfl⟩
        refine NDr.w _ ?_
        refine NDr.w _ ?_
        refine NP.mk (by kernel_rfl) ?_
        refine NCall.atA (kd) ?_
        refine NW.w ?_
        refine NW.w ?_
        refine NP.mk (by omega) ?_
        rw [(e8 trivial)]
        refine NW.w ?_
        refine ND.no (by omega) ?_
        refine NB.dec (fun h8 => ?_) (fun h8 => ?_)
        ·have hR := hR
         rw [decide_eq_true (show b' - mid ≥ q8 by omega)] at hR
         refine NW.w ?_
         refine NCall.atA (q2) ?_
         exact Canon.mk [] rfl ⟨mid - a', by omega, a', mid, D.lim, true, apd, (pdq ltI d4 (mid + 1) b' D.lim true true).toList, rfl, by omega, by omega, by omega, by omega, by simp; omega, by rw [toA]; exact bR, by rw [toA, hR], rfl, rfl⟩
        ·have hR := hR
         rw [decide_eq_false (show ¬ (b' - mid ≥ q8) by omega)] at hR
         refine NW.w ?_
         refine NCall.atA (q2) ?_
         exact Canon.mk [] rfl ⟨mid - a', by omega, a', mid, D.lim, false, apd, (pdq ltI d4 (mid + 1) b' D.lim true true).toList, rfl, by omega, by omega, by omega, by omega, by simp; omega, by rw [toA]; exact bR, by rw [toA, hR], rfl, rfl⟩
      | false =>
       have u := ltF t
       have h87 : (decide (a' > 0) && !ltI D.pi.1[a' - 1]! D.pi.1[D.pivot]!) = true := by rw [hcur, y1, y2, t]; simp; omega
       obtain ⟨mi, d5, hy⟩ : ∃ mi d5, partitionEqual ltI D.pi.1 a' b' D.pivot = (mi, d5) := ⟨_, _, rfl⟩
       obtain ⟨r1, r2, r3, r4, _⟩ := Go.Sort.round_eq swoI (Go.Sort.partitionEqual_holds ltI) (by omega) hpv.1 hpv.2 (by omega) B3 (by rw [hcur, y1, y2, t]) hy
       have heq := heq hp2 h87 (by rw [hy]; exact ⟨r1, r2⟩)
       rw [hy] at ke heq
       dsimp only at ke heq
       refine NW.w ?_
       refine ND.no (by omega) ?_
       refine ND.no (by omega) ?_
       refine NCall.atA (kc) ?_
       refine ND.no (by omega) ?_
       refine ND.no (by omega) ?_
       refine NP.mk (by kernel_rfl) ?_
       refine NDr.w _ ?_
       apply NDr.pure
       ·refine ND.yes (by omega) ?_
        exact ⟨rfl, rfl⟩
       refine NDr.w _ ?_
       refine NDr.w _ ?_
       apply NDr.any
       ·intro H'
        exact ⟨rfl, rfl⟩
       refine NDr.w _ ?_
       apply NDr.pure
       ·refine NW.w ?_
        exact ⟨rfl, rfl⟩
       apply NDr.rd [0]
       ·intro fH TH
        refine NP.mk (by (simp only [zLm, zLa, zLr, zLc, zLn, zLt, zLd]; omega)) ?_
        rw [(ea trivial)]
        exact ⟨rfl, rfl⟩
       apply NDr.rd [0]
       ·intro fH TH
        refine NG.map0N (by omega) ?_
        exact ⟨rfl, rfl⟩
       apply NDr.any
       ·intro H'
        exact ⟨rfl, rfl⟩
       refine NDr.w _ ?_
       apply NDr.rd [0]
       ·intro fH TH
        refine NP.mk (by (simp only [zLm, zLa, zLr, zLc, zLn, zLt, zLd]; omega)) ?_
        exact ⟨rfl, rfl⟩
       apply NDr.rd [0]
       ·intro fH TH
        refine NG.map0N (by omega) ?_
        exact ⟨rfl, rfl⟩
       apply NDr.pure
       ·refine NCall.call (b1) rfl rfl ?_
        exact ⟨rfl, rfl⟩
       apply NDr.pure
       ·refine ND.no (by omega) ?_
        exact ⟨rfl, rfl⟩
       refine NDr.w _ ?_
       refine NDr.w _ ?_
       refine NP.mk (by kernel_rfl) ?_
       refine NCall.atA (ke) ?_
       exact Canon.mk [] rfl ⟨b' - mi, by omega, mi, b', D.lim, true, true, d5.toList, rfl, by omega, by omega, by omega, by omega, by simp; omega, by rw [toA]; exact r4, by rw [toA, heq], rfl, rfl⟩
end Go.Bv
namespace Go.Bv
set_option linter.unusedSimpArgs false
set_option linter.unusedVariables false
set_option maxHeartbeats 4000000
set_option maxRecDepth 20000
open Go Go.Proofs
theorem sortFunc_walk (l : List Item) (hl : l.length ≤ 60000) : ACalls Tryz.prog Nm.slices_SortFunc_api_Item_api_Item [.own 0 0 l.length, .fn Nm.item_compare []] [.row .vrow (.agg 8) (l.map itemA)] (.tup []) [.row .vrow (.agg 8) ((isort l).map itemA)] := by
 refine ACalls_of tab (dr_snd tab mixed) Nm.slices_SortFunc_api_Item_api_Item_h rfl (by kernel_rfl) (Nat.le_of_ble_eq_true rfl) rfl ?_
 have h1 := len_walk l.length (by omega)
 have hb := (Go.Sort.bitsLen_le_iff l.length 16).2 (by omega)
 have h2 := pdq_walk l.length l 0 l.length (Go.Sort.bitsLen l.length) (by omega) (by omega) (Nat.le_refl _) hl (by omega) (Or.inl rfl)
 rw [pdq_isort] at h2
 have e : IntKind.wrap .u64 (l.length : Int) = (l.length : Int) := by rw [wrap_u64]; omega
 refine NW.mk _ rfl ?_
 rw [(e)]
 refine NCall.call (h1) rfl rfl ?_
 refine NCall.atA (h2) ?_
 exact NRet.mk [] rfl ⟨.refl _, rfl⟩
theorem isort_len (l : List Item) : (isort l).length = l.length := (isort_perm l).length_eq
theorem norm_len (l : List Item) : (norm l).length ≤ l.length := by
 unfold norm
 rw [← isort_len l]
 exact (nubF_sub _ _).length_le
theorem norm_own (l : List Item) (hl : l.length ≤ 60000) : ACalls Tryz.prog Nm.item_Norm [itemsA l] [] (.own 0 0 (norm l).length) [.row .vrow (.agg 8) ((norm l).map itemA ++ List.replicate (l.length - (norm l).length) zI)] := by
 refine ACalls_of tab (dr_snd tab mixed) Nm.item_Norm_h rfl (by kernel_rfl) (Nat.le_of_ble_eq_true rfl) rfl ?_
 have k1 := cloneI_walk l (by omega)
 have k2 := sortFunc_walk l hl
 have k3 := deleteB_walk Nm.item_Norm_1 hadI (isort l) (by rw [isort_len]; omega) (fun k x => normF_walk k x)
 rw [keepD_nub, isort_len] at k3
 rw [show nubF [] (isort l) = norm l from rfl] at k3
 refine NCall.atA (ACalls.frame (k1) rfl _) ?_
 refine NCall.atA (k2) ?_
 refine NCall.subA [0, 2, 1] (k3) ?_
 exact NRet.mk [0] rfl ⟨.refl _, rfl⟩
/-- A row that holds a list and more, as the list. -/
theorem norm_list (l : List Item) (hl : l.length ≤ 60000) : ACalls Tryz.prog Nm.item_Norm [itemsA l] [] (itemsA (norm l)) [] :=
 (norm_own l hl).drop (.val (.own trivial rfl (by simp) (by simp) (by rw [List.drop_zero, List.take_left' (by simp)])) rfl (fun _ => by simp [itemsA]) (fun _ => by simp [itemsA]))
theorem without_len (l : List Item) (D : List Dot) : (without l D).length ≤ l.length := List.length_filter_le _ _
theorem doE_len (n s : Int) (l : List Item) (e : Eff) : (doE n s l e).length ≤ l.length + 1 := by
 have h1 := norm_len (rawE n s l e)
 have h2 := without_len l e.drops
 unfold doE
 refine Nat.le_trans h1 ?_
 unfold rawE madeL
 rw [List.length_append]
 split <;> simp only [List.length_nil, List.length_cons] <;> omega
theorem do_walk (l : List Item) (n s : Int) (es : List Eff) (hl : l.length ≤ 50000) (he : es.length ≤ 5000) (hx : ∀ e ∈ es, smEff e) : ACalls Tryz.prog Nm.eff_Do [itemsA l, i64 n, i64 s, effsA es] [] (itemsA (doL n s l es)) [] := by
 refine ACalls_of tab (dr_snd tab mixed) Nm.eff_Do_h rfl (by kernel_rfl) (Nat.le_of_ble_eq_true rfl) rfl ?_
 have k1 := cloneI_walk l (by omega)
 refine NCall.atA (ACalls.frame (k1) rfl _) ?_
 refine NLoop.mk [] [1, 2, 9, 14, 15, 16] (fun m vs H => ∃ (i : Nat) (junk : List AV), i ≤ es.length ∧ m = es.length - i ∧ (doL n s l (es.take i)).length ≤ l.length + i ∧ H = [.row .vrow (.agg 8) ((doL n s l (es.take i)).map itemA ++ junk)] ∧
  vs = [i64 n, i64 s, .own 0 0 (doL n s l (es.take i)).length, effsA es, i64 es.length, i64 i]) rfl ?_ ?_
 ·exact Canon.mk [0] rfl ⟨es.length, 0, [], Nat.zero_le _, rfl, Nat.le_refl _, by rw [List.append_nil]; rfl, by rw [List.length_map]; rfl⟩
 rintro m vs H ⟨i, junk, hi, rfl, hlen, rfl, rfl⟩
 by_cases hil : i < es.length
 ·have hs := hx _ (List.getElem_mem hil)
  have hstep : doL n s l (es.take (i + 1)) = doE n s (doL n s l (es.take i)) es[i] := by
   unfold doL
   rw [List.take_succ_eq_append_getElem hil, List.foldl_append]; rfl
  have hlen2 := doE_len n s (doL n s l (es.take i)) es[i]
  rw [← hstep] at hlen2
  have hw := without_len (doL n s l (es.take i)) es[i].drops
  have k2 := without_own (doL n s l (es.take i)) es[i].drops (by omega) hs.2.2.2
  have k3 := made_walk n s es[i]
  have k4 := norm_own (rawE n s (doL n s l (es.take i)) es[i]) (by
   unfold rawE madeL
   rw [List.length_append]
   split <;> simp only [List.length_nil, List.length_cons] <;> omega)
  rw [show norm (rawE n s (doL n s l (es.take i)) es[i]) = doL n s l (es.take (i + 1)) from hstep.symm] at k4
  have htk : ∀ (w : List Item) (X : List AV), List.take w.length (w.map itemA ++ X) = w.map itemA := fun w X => List.take_left' (by simp)
  obtain ⟨cur, hcur⟩ : ∃ c, c = doL n s l (es.take i) := ⟨_, rfl⟩
  rw [← hcur] at k2 k4 hw hlen ⊢
  unfold rawE madeL at k4
  obtain ⟨nxt, hnxt⟩ : ∃ c, c = doL n s l (es.take (i + 1)) := ⟨_, rfl⟩
  rw [← hnxt] at k4 hlen2
  rw [← hcur] at hlen2
  generalize without cur es[i].drops = w at *
  by_cases hk : es[i].kind = 0
  ·rw [if_pos hk, List.append_nil] at k4
   refine ND.yes (by omega) ?_
   refine NP.mk (by omega) ?_
   refine NG.mapN (by omega) ?_
   refine NCall.roA [0] ?_
   rw [(htk cur junk)]
   refine NCall.atA (ACalls.frame (k2) rfl _) ?_
   refine ND.yes (by omega) ?_
   refine NCall.roA [2] ?_
   rw [(htk w _)]
   refine NCall.atA (ACalls.frame (k4) rfl _) ?_
   refine NW.w ?_
   exact Canon.mk [3] rfl ⟨es.length - (i + 1), by omega, i + 1, List.replicate (w.length - nxt.length) zI, by omega, rfl, by rw [← hnxt]; omega, by subst hnxt; rfl, by subst hnxt; rfl⟩
  ·rw [if_neg hk] at k4
   obtain ⟨x, hxe⟩ : ∃ x, x = made n s es[i] := ⟨_, rfl⟩
   rw [← hxe] at k4 k3
   rw [show itemsA (w ++ [x]) = .list (.agg 8) (w.map itemA ++ [itemA x]) by simp [itemsA]] at k4
   by_cases hwe : cur.length - w.length = 0
   ·rw [hwe, List.replicate_zero, List.append_nil] at k2
    refine ND.yes (by omega) ?_
    refine NP.mk (by omega) ?_
    refine NG.mapN (by omega) ?_
    refine NCall.roA [0] ?_
    rw [(htk cur junk)]
    refine NCall.atA (ACalls.frame (k2) rfl _) ?_
    refine ND.no (by omega) ?_
    refine NCall.call (k3) rfl rfl ?_
    refine NFz.own ?_
    refine NApp.endA (by simp) (by simp; omega) ?_
    refine NCall.roA [3] ?_
    rw [(tl0 _)]
    refine NCall.atA (ACalls.frame (k4) rfl _) ?_
    refine NW.w ?_
    exact Canon.mk [4] rfl ⟨es.length - (i + 1), by omega, i + 1, List.replicate ((w ++ [x]).length - nxt.length) zI, by omega, rfl, by rw [← hnxt]; omega, by subst hnxt; rfl, by subst hnxt; rfl⟩
   ·obtain ⟨c, hc⟩ : ∃ c, cur.length - w.length = c + 1 := ⟨cur.length - w.length - 1, by omega⟩
    rw [hc] at k2
    have htk2 : List.take (w.length + 1) (w.map itemA ++ itemA x :: List.replicate c zI) = w.map itemA ++ [itemA x] := by
     rw [show w.map itemA ++ itemA x :: List.replicate c zI = (w.map itemA ++ [itemA x]) ++ List.replicate c zI by simp]
     exact List.take_left' (by simp)
    refine ND.yes (by omega) ?_
    refine NP.mk (by omega) ?_
    refine NG.mapN (by omega) ?_
    refine NCall.roA [0] ?_
    rw [(htk cur junk)]
    refine NCall.atA (ACalls.frame (k2) rfl _) ?_
    refine ND.no (by omega) ?_
    refine NCall.call (k3) rfl rfl ?_
    refine NFz.own ?_
    refine NApp.inA (es' := w.map itemA ++ itemA x :: List.replicate c zI) (by simp) ?_ rfl ?_ rfl
    rotate_left
    ·have hd : List.drop (0 + w.length + 1) (w.map itemA ++ List.replicate (c + 1) zI) = List.replicate c zI := by
      rw [List.drop_append, List.drop_eq_nil_of_le (by simp), List.nil_append, List.length_map, show 0 + w.length + 1 - w.length = 1 by omega]; rfl
     show List.take (0 + w.length) (w.map itemA ++ List.replicate (c + 1) zI) ++ ([itemA x] ++ List.drop (0 + w.length + 1) (w.map itemA ++ List.replicate (c + 1) zI)) = _
     rw [hd, Nat.zero_add, List.take_left' (by simp)]; rfl
    refine NCall.roA [2] ?_
    rw [(htk2)]
    refine NCall.atA (ACalls.frame (k4) rfl _) ?_
    refine NW.w ?_
    exact Canon.mk [3] rfl ⟨es.length - (i + 1), by omega, i + 1, List.replicate ((w ++ [x]).length - nxt.length) zI, by omega, rfl, by rw [← hnxt]; omega, by subst hnxt; rfl, by subst hnxt; rfl⟩
 ·have : i = es.length := by omega
  subst this
  rw [List.take_length]
  refine ND.no (by omega) ?_
  exact NRet.mk [] rfl (NFrz.mk ((doL n s l es).map itemA) (by simp) (by rw [List.drop_zero, List.take_left' (by simp)]) ⟨.refl _, rfl⟩)
end Go.Bv
namespace Go.Bv
set_option linter.unusedSimpArgs false
set_option linter.unusedVariables false
set_option maxHeartbeats 4000000
open Go Go.Proofs
theorem equalV_walk (a b : List Int) (ha : a.length ≤ 2 ^ 40) : ACalls Tryz.prog Nm.slices_Equal_api_Vec_int [ints a, ints b] [] (.bool (decide (a = b))) [] := by
 refine ACalls_of tab (dr_snd tab mixed) Nm.slices_Equal_api_Vec_int_h rfl (by kernel_rfl) (Nat.le_of_ble_eq_true rfl) rfl ?_
 by_cases hl : a.length = b.length
 ·refine ND.yes (by (simp only [zLm, zLa, zLr, zLc, zLn, zLt, zLd]; omega)) ?_
  refine NLoop.mk [] [0, 1, 11, 12, 13] (fun m vs H => ∃ i, i ≤ a.length ∧ m = a.length - i ∧ a.take i = b.take i ∧ H = [] ∧ vs = [ints a, ints b, ints a, i64 a.length, i64 i]) rfl ?_ ?_
  ·exact Canon.mk [] rfl ⟨a.length, 0, Nat.zero_le _, rfl, rfl, rfl, by simp [ints, i64]⟩
  ·rintro m vs H ⟨i, hi, rfl, ht, rfl, rfl⟩
   by_cases hil : i < a.length
   ·have hib : i < b.length := by omega
    by_cases he : a[i] = b[i]
    ·refine ND.yes (by omega) ?_
     refine NP.mk (by kernel_rfl) ?_
     refine NDr.w _ ?_
     refine NDr.w _ ?_
     apply NDr.pure
     ·refine NP.mk (by omega) ?_
      refine NG.mapN (by omega) ?_
      exact ⟨rfl, rfl⟩
     refine NDr.w _ ?_
     refine NDr.w _ ?_
     refine NDr.w _ ?_
     apply NDr.pure
     ·refine NP.mk (by omega) ?_
      refine NG.mapN (by omega) ?_
      exact ⟨rfl, rfl⟩
     refine NDr.w _ ?_
     apply NDr.pure
     ·refine ND.yes (by omega) ?_
      exact ⟨rfl, rfl⟩
     refine NP.mk (by kernel_rfl) ?_
     refine NW.w ?_
     exact Canon.mk [] rfl ⟨a.length - (i + 1), by omega, i + 1, by omega, rfl, take_eq_next ht hil hib he, rfl, rfl⟩
    ·rw [decide_eq_false fun e => he (by simp only [e])]
     refine ND.yes (by omega) ?_
     refine NP.mk (by kernel_rfl) ?_
     refine NDr.w _ ?_
     refine NDr.w _ ?_
     apply NDr.pure
     ·refine NP.mk (by omega) ?_
      refine NG.mapN (by omega) ?_
      exact ⟨rfl, rfl⟩
     refine NDr.w _ ?_
     refine NDr.w _ ?_
     refine NDr.w _ ?_
     apply NDr.pure
     ·refine NP.mk (by omega) ?_
      refine NG.mapN (by omega) ?_
      exact ⟨rfl, rfl⟩
     refine NDr.w _ ?_
     apply NDr.pure
     ·refine ND.no (by omega) ?_
      exact ⟨rfl, rfl⟩
     refine NP.mk (by kernel_rfl) ?_
     exact NRet.mk [] rfl ⟨.refl _, rfl⟩
   ·have : i = a.length := by omega
    subst this
    rw [decide_eq_true (take_eq_end hl ht)]
    refine ND.no (by omega) ?_
    exact NRet.mk [] rfl ⟨.refl _, rfl⟩
 ·rw [decide_eq_false fun e => hl (by rw [e])]
  refine ND.no (by (simp only [zLm, zLa, zLr, zLc, zLn, zLt, zLd]; omega)) ?_
  exact NRet.mk [] rfl ⟨.refl _, rfl⟩
theorem formF_walk (n : Int) : ACalls Tryz.prog Nm.txn_Formed_1 [i64 n] [] (.bool (decide (1073741824 < n))) [] := by
 refine ACalls_of tab (dr_snd tab mixed) Nm.txn_Formed_1_h rfl (by kernel_rfl) (Nat.le_of_ble_eq_true rfl) rfl ?_
 refine NB.dec (fun hk1 => ?_) (fun hk1 => ?_)
 ·refine NRet.boolE (b := true) ?_ (NRet.mk [] rfl ⟨.refl _, rfl⟩)
  (simp only [decide_eq_true_eq, decide_eq_false_iff_not, eq_comm (a := true), eq_comm (a := false)]; omega)
 refine NRet.boolE (b := false) ?_ (NRet.mk [] rfl ⟨.refl _, rfl⟩)
 (simp only [decide_eq_true_eq, decide_eq_false_iff_not, eq_comm (a := true), eq_comm (a := false)]; omega)
theorem indexV_walk (g : Nat) (l : List Int) (p : Int → Bool) (hl : l.length ≤ 2 ^ 40) (hg : ∀ d ∈ l, ACalls Tryz.prog g [i64 d] [] (.bool (p d)) []) :
  ACalls Tryz.prog Nm.slices_IndexFunc_api_Vec_int [ints l, .fn g []] [] (i64 (ixI p l)) [] := by
 refine ACalls_of tab (dr_snd tab mixed) Nm.slices_IndexFunc_api_Vec_int_h rfl (by kernel_rfl) (Nat.le_of_ble_eq_true rfl) rfl ?_
 refine NLoop.mk [] [0, 1, 6, 7, 8] (fun m vs H => ∃ i, i ≤ l.length ∧ m = l.length - i ∧ (∀ x ∈ l.take i, p x = false) ∧ H = [] ∧ vs = [ints l, .fn g [], ints l, i64 l.length, i64 i]) rfl ?_ ?_
 ·exact Canon.mk [] rfl ⟨l.length, 0, Nat.zero_le _, rfl, by simp, rfl, by simp [ints, i64]⟩
 ·rintro m vs H ⟨i, hi, rfl, ht, rfl, rfl⟩
  by_cases hil : i < l.length
  ·have hc := hg _ (List.getElem_mem hil)
   obtain ⟨f1, f2⟩ := find_step hil ht
   cases hp : p l[i] with
   | true =>
    rw [hp] at hc
    rw [f1 hp]
    refine ND.yes (by omega) ?_
    refine NP.mk (by omega) ?_
    refine NG.mapN (by omega) ?_
    refine NCall.call (hc) rfl rfl ?_
    exact NRet.mk [] rfl ⟨.refl _, rfl⟩
   | false =>
    rw [hp] at hc
    refine ND.yes (by omega) ?_
    refine NP.mk (by omega) ?_
    refine NG.mapN (by omega) ?_
    refine NCall.call (hc) rfl rfl ?_
    refine NW.w ?_
    exact Canon.mk [] rfl ⟨l.length - (i + 1), by omega, i + 1, by omega, rfl, f2 hp, rfl, rfl⟩
  ·have : i = l.length := by omega
   subst this
   rw [List.take_length] at ht
   rw [find_none ht]
   refine ND.no (by omega) ?_
   exact NRet.mk [] rfl ⟨.refl _, rfl⟩
theorem containsV_walk (g : Nat) (l : List Int) (p : Int → Bool) (hl : l.length ≤ 2 ^ 40) (hg : ∀ d ∈ l, ACalls Tryz.prog g [i64 d] [] (.bool (p d)) []) :
  ACalls Tryz.prog Nm.slices_ContainsFunc_api_Vec_int [ints l, .fn g []] [] (.bool (l.any p)) [] := by
 have hi := indexV_walk g l p hl hg
 refine ACalls_of tab (dr_snd tab mixed) Nm.slices_ContainsFunc_api_Vec_int_h rfl (by kernel_rfl) (Nat.le_of_ble_eq_true rfl) rfl ?_
 rw [ixI_any]
 by_cases h : 0 ≤ ixI p l
 ·rw [decide_eq_true h]
  refine NCall.call (hi) rfl rfl ?_
  refine ND.yes (by omega) ?_
  exact NRet.mk [] rfl ⟨.refl _, rfl⟩
 ·rw [decide_eq_false h]
  refine NCall.call (hi) rfl rfl ?_
  refine ND.no (by omega) ?_
  exact NRet.mk [] rfl ⟨.refl _, rfl⟩
theorem all_le (v : List Int) : (v.all fun n => decide (n ≤ 1073741824)) = !v.any fun n => decide (1073741824 < n) := by
 rw [List.not_any_eq_all_not]
 congr 1; funext n
 by_cases h : n ≤ 1073741824
 ·simp [h, Int.not_lt.2 h]
 ·simp [h, Int.not_le.1 h]
theorem vatI_nonneg (v : List Int) (n : Int) : 0 ≤ vatI v n := by
 unfold vatI; split
 ·exact Int.le_refl _
 ·exact vat_nonneg _ _
theorem vat_le {v : List Int} {m : Int} (h : ∀ x ∈ v, x ≤ m) (hm : 0 ≤ m) (i : Nat) : vat v i ≤ m := by
 rcases Nat.lt_or_ge i v.length with hi | hi
 ·rw [vat_in hi]; have := h _ (List.getElem_mem hi); omega
 ·rw [vat_out hi]; exact hm
theorem vatI_le {v : List Int} {m : Int} (h : ∀ x ∈ v, x ≤ m) (hm : 0 ≤ m) (n : Int) : vatI v n ≤ m := by
 unfold vatI; split
 ·exact hm
 ·exact vat_le h hm _
theorem formed_walk (t : Txn) (ht : smTxn t) : ACalls Tryz.prog Nm.txn_Formed [txnA t] [] (.bool (formed t)) [] := by
 refine ACalls_of tab (dr_snd tab mixed) Nm.txn_Formed_h rfl (by kernel_rfl) (Nat.le_of_ble_eq_true rfl) rfl ?_
 obtain ⟨hs, h1, h2, h3⟩ := ht
 have k1 := vecTrim_walk t.deps (by omega)
 have k2 := equalV_walk (trim t.deps) t.deps (Nat.le_trans (trim_len _) (by omega))
 have k3 := vecAt_walk t.deps t.node (by omega)
 have k4 := containsV_walk Nm.txn_Formed_1 t.deps (fun n => decide (1073741824 < n)) (by omega) (fun n _ => formF_walk n)
 have k5 := right_walk t.node t.seq t.effs (by omega) h3
 have k6 := effHeard_walk t.effs t.node t.seq t.deps (by omega) h3 (by omega)
 obtain ⟨hs1, hs2⟩ := hs
 refine NB.dec (fun hk1 => ?_) (fun hk1 => ?_)
 ·refine NRet.boolE (b := false) ?_ (NRet.mk [] rfl ⟨.refl _, rfl⟩)
  grind [formed, vecOk, all_le]
 refine NB.dec (fun hk2 => ?_) (fun hk2 => ?_)
 ·refine NRet.boolE (b := false) ?_ (NRet.mk [] rfl ⟨.refl _, rfl⟩)
  grind [formed, vecOk, all_le]
 refine NB.dec (fun hk3 => ?_) (fun hk3 => ?_)
 ·refine NRet.boolE (b := false) ?_ (NRet.mk [] rfl ⟨.refl _, rfl⟩)
  grind [formed, vecOk, all_le]
 refine NB.dec (fun hk4 => ?_) (fun hk4 => ?_)
 ·refine NRet.boolE (b := false) ?_ (NRet.mk [] rfl ⟨.refl _, rfl⟩)
  grind [formed, vecOk, all_le]
 refine NB.dec (fun hk5 => ?_) (fun hk5 => ?_)
 ·refine NRet.boolE (b := false) ?_ (NRet.mk [] rfl ⟨.refl _, rfl⟩)
  grind [formed, vecOk, all_le]
 refine NB.dec (fun hk6 => ?_) (fun hk6 => ?_)
 ·refine NRet.boolE (b := false) ?_ (NRet.mk [] rfl ⟨.refl _, rfl⟩)
  grind [formed, vecOk, all_le]
 refine NP.mk (by kernel_rfl) ?_
 apply NDr.rd [0]
 ·intro fH TH
  exact ⟨rfl, rfl⟩
 apply NDr.rd [0]
 ·intro fH TH
  exact ⟨rfl, rfl⟩
 apply NDr.pure
 ·refine NCall.call (k1) rfl rfl ?_
  exact ⟨rfl, rfl⟩
 apply NDr.rd [0]
 ·intro fH TH
  exact ⟨rfl, rfl⟩
 apply NDr.rd [0]
 ·intro fH TH
  exact ⟨rfl, rfl⟩
 apply NDr.pure
 ·refine NCall.call (k2) rfl rfl ?_
  exact ⟨rfl, rfl⟩
 apply NDr.pure
 ·exact NB.det0'
 refine NDr.w _ ?_
 refine NB.mk (fun hk7 => ?_) (fun hk7 => ?_)
 ·refine NB.yes (by assumption) ?_
  refine NB.yes (by assumption) ?_
  refine NB.yes (by assumption) ?_
  refine NB.yes (by assumption) ?_
  refine NB.yes (by assumption) ?_
  refine NB.yes (by assumption) ?_
  refine NB.yes (by assumption) ?_
  refine NB.yes (by assumption) ?_
  apply NDr.pure
  ·refine NB.yes (by assumption) ?_
   exact ⟨rfl, rfl⟩
  refine NDr.w _ ?_
  refine NDr.w _ ?_
  refine NP.mk (by kernel_rfl) ?_
  refine NRet.boolE (b := false) ?_ (NRet.mk [] rfl ⟨.refl _, rfl⟩)
  grind [formed, vecOk, all_le]
 apply NDr.rd [0]
 ·intro fH TH
  exact ⟨rfl, rfl⟩
 refine NB.no (by assumption) ?_
 apply NDr.rd [0]
 ·intro fH TH
  exact ⟨rfl, rfl⟩
 refine NB.no (by assumption) ?_
 apply NDr.rd [0]
 ·intro fH TH
  exact ⟨rfl, rfl⟩
 refine NB.no (by assumption) ?_
 apply NDr.rd [0]
 ·intro fH TH
  exact ⟨rfl, rfl⟩
 refine NB.no (by assumption) ?_
 apply NDr.pure
 ·refine NCall.call (k3) rfl rfl ?_
  exact ⟨rfl, rfl⟩
 refine NB.no (by assumption) ?_
 apply NDr.rd [0]
 ·intro fH TH
  exact ⟨rfl, rfl⟩
 refine NB.no (by assumption) ?_
 apply NDr.rd [0]
 ·intro fH TH
  exact ⟨rfl, rfl⟩
 refine NB.no (by assumption) ?_
 apply NDr.pure
 ·refine NW.w ?_
  exact ⟨rfl, rfl⟩
 refine NB.no (by assumption) ?_
 apply NDr.pure
 ·exact NB.det'
 apply NDr.pure
 ·refine NB.no (by assumption) ?_
  exact ⟨rfl, rfl⟩
 refine NDr.w _ ?_
 refine NB.mk (fun hk27 => ?_) (fun hk27 => ?_)
 ·refine NB.yes (by assumption) ?_
  refine NB.yes (by assumption) ?_
  apply NDr.pure
  ·refine NB.yes (by assumption) ?_
   exact ⟨rfl, rfl⟩
  refine NP.mk (by kernel_rfl) ?_
  refine NRet.boolE (b := false) ?_ (NRet.mk [] rfl ⟨.refl _, rfl⟩)
  grind [formed, vecOk, all_le]
 apply NDr.rd [0]
 ·intro fH TH
  exact ⟨rfl, rfl⟩
 refine NB.no (by assumption) ?_
 apply NDr.rd [0]
 ·intro fH TH
  exact ⟨rfl, rfl⟩
 refine NB.no (by assumption) ?_
 apply NDr.pure
 ·refine NCall.call (k4) rfl rfl ?_
  exact ⟨rfl, rfl⟩
 apply NDr.pure
 ·refine NB.no (by assumption) ?_
  exact ⟨rfl, rfl⟩
 refine NP.mk (by kernel_rfl) ?_
 refine NB.mk (fun hk34 => ?_) (fun hk34 => ?_)
 ·refine NRet.boolE (b := false) ?_ (NRet.mk [] rfl ⟨.refl _, rfl⟩)
  grind [formed, vecOk, all_le]
 refine NCall.call (k5) rfl rfl ?_
 refine NB.mk (fun hk35 => ?_) (fun hk35 => ?_)
 ·refine NB.yes (by assumption) ?_
  refine NB.yes (by assumption) ?_
  refine NB.yes (by assumption) ?_
  refine NB.yes (by assumption) ?_
  refine NB.yes (by assumption) ?_
  refine NB.yes (by assumption) ?_
  refine NB.yes (by assumption) ?_
  refine NB.yes (by assumption) ?_
  refine NCall.call (k6) rfl rfl ?_
  refine NB.yes (by assumption) ?_
  refine NRet.boolE ?_ (NRet.mk [] rfl ⟨.refl _, rfl⟩)
  grind [formed, vecOk, all_le]
 refine NB.no (by assumption) ?_
 refine NB.no (by assumption) ?_
 refine NB.no (by assumption) ?_
 refine NB.no (by assumption) ?_
 refine NB.no (by assumption) ?_
 refine NB.no (by assumption) ?_
 refine NB.no (by assumption) ?_
 refine NB.no (by assumption) ?_
 refine NB.no (by assumption) ?_
 refine NRet.boolE (b := false) ?_ (NRet.mk [] rfl ⟨.refl _, rfl⟩)
 grind [formed, vecOk, all_le]
theorem formed13_walk (t : Txn) (ht : smTxn t) : ACalls Tryz.prog Nm.ref13_Formed [txnA t] [] (.bool (formed t)) [] := by
 refine ACalls_of tab (dr_snd tab mixed) Nm.ref13_Formed_h rfl (by kernel_rfl) (Nat.le_of_ble_eq_true rfl) rfl ?_
 obtain ⟨hs, h1, h2, h3⟩ := ht
 have k1 := trim7_walk t.deps (by omega)
 have k2 := equal7_walk t.deps (trim t.deps) (by omega)
 have k3 := at7_walk t.deps t.node (by omega)
 have k5 := right10_walk t.node t.seq t.effs (by omega) h3
 have k6 := effHeard10_walk t.effs t.node t.seq t.deps (by omega) h3 (by omega)
 obtain ⟨hs1, hs2⟩ := hs
 refine NP.mk (by kernel_rfl) ?_
 apply NDr.rd [0]
 ·intro fH TH
  exact ⟨rfl, rfl⟩
 apply NDr.rd [0]
 ·intro fH TH
  exact ⟨rfl, rfl⟩
 apply NDr.pure
 ·exact NB.det
 refine NDr.w _ ?_
 refine NB.mk (fun hk2 => ?_) (fun hk2 => ?_)
 ·refine NB.yes (by assumption) ?_
  refine NB.yes (by assumption) ?_
  apply NDr.pure
  ·refine NB.yes (by assumption) ?_
   exact ⟨rfl, rfl⟩
  refine NDr.w _ ?_
  refine NDr.w _ ?_
  refine NDr.w _ ?_
  refine NDr.w _ ?_
  refine NDr.w _ ?_
  refine NDr.w _ ?_
  refine NDr.w _ ?_
  refine NDr.w _ ?_
  refine NDr.w _ ?_
  refine NDr.w _ ?_
  refine NP.mk (by kernel_rfl) ?_
  refine NRet.boolE (b := false) ?_ (NRet.mk [] rfl ⟨.refl _, rfl⟩)
  grind [formed, vecOk, all_le]
 apply NDr.rd [0]
 ·intro fH TH
  exact ⟨rfl, rfl⟩
 refine NB.no (by assumption) ?_
 apply NDr.rd [0]
 ·intro fH TH
  exact ⟨rfl, rfl⟩
 refine NB.no (by assumption) ?_
 apply NDr.pure
 ·exact NB.det
 apply NDr.pure
 ·refine NB.no (by assumption) ?_
  exact ⟨rfl, rfl⟩
 refine NDr.w _ ?_
 refine NB.mk (fun hk10 => ?_) (fun hk10 => ?_)
 ·refine NB.yes (by assumption) ?_
  refine NB.yes (by assumption) ?_
  apply NDr.pure
  ·refine NB.yes (by assumption) ?_
   exact ⟨rfl, rfl⟩
  refine NDr.w _ ?_
  refine NDr.w _ ?_
  refine NDr.w _ ?_
  refine NDr.w _ ?_
  refine NDr.w _ ?_
  refine NDr.w _ ?_
  refine NDr.w _ ?_
  refine NDr.w _ ?_
  refine NP.mk (by kernel_rfl) ?_
  refine NRet.boolE (b := false) ?_ (NRet.mk [] rfl ⟨.refl _, rfl⟩)
  grind [formed, vecOk, all_le]
 apply NDr.rd [0]
 ·intro fH TH
  exact ⟨rfl, rfl⟩
 refine NB.no (by assumption) ?_
 apply NDr.rd [0]
 ·intro fH TH
  exact ⟨rfl, rfl⟩
 refine NB.no (by assumption) ?_
 apply NDr.pure
 ·exact NB.det
 apply NDr.pure
 ·refine NB.no (by assumption) ?_
  exact ⟨rfl, rfl⟩
 refine NDr.w _ ?_
 refine NB.mk (fun hk18 => ?_) (fun hk18 => ?_)
 ·refine NB.yes (by assumption) ?_
  refine NB.yes (by assumption) ?_
  apply NDr.pure
  ·refine NB.yes (by assumption) ?_
   exact ⟨rfl, rfl⟩
  refine NDr.w _ ?_
  refine NDr.w _ ?_
  refine NDr.w _ ?_
  refine NDr.w _ ?_
  refine NDr.w _ ?_
  refine NDr.w _ ?_
  refine NP.mk (by kernel_rfl) ?_
  refine NRet.boolE (b := false) ?_ (NRet.mk [] rfl ⟨.refl _, rfl⟩)
  grind [formed, vecOk, all_le]
 apply NDr.rd [0]
 ·intro fH TH
  exact ⟨rfl, rfl⟩
 refine NB.no (by assumption) ?_
 apply NDr.rd [0]
 ·intro fH TH
  exact ⟨rfl, rfl⟩
 refine NB.no (by assumption) ?_
 apply NDr.pure
 ·exact NB.det
 apply NDr.pure
 ·refine NB.no (by assumption) ?_
  exact ⟨rfl, rfl⟩
 refine NDr.w _ ?_
 refine NB.mk (fun hk26 => ?_) (fun hk26 => ?_)
 ·refine NB.yes (by assumption) ?_
  refine NB.yes (by assumption) ?_
  refine NB.yes (by assumption) ?_
  apply NDr.pure
  ·refine NB.yes (by assumption) ?_
   exact ⟨rfl, rfl⟩
  refine NDr.w _ ?_
  refine NDr.w _ ?_
  refine NDr.w _ ?_
  refine NDr.w _ ?_
  refine NP.mk (by kernel_rfl) ?_
  refine NRet.boolE (b := false) ?_ (NRet.mk [] rfl ⟨.refl _, rfl⟩)
  grind [formed, vecOk, all_le]
 apply NDr.rd [0]
 ·intro fH TH
  exact ⟨rfl, rfl⟩
 refine NB.no (by assumption) ?_
 apply NDr.rd [0]
 ·intro fH TH
  exact ⟨rfl, rfl⟩
 refine NB.no (by assumption) ?_
 refine NDr.w _ ?_
 refine NB.no (by assumption) ?_
 apply NDr.pure
 ·exact NB.det
 apply NDr.pure
 ·refine NB.no (by assumption) ?_
  exact ⟨rfl, rfl⟩
 refine NDr.w _ ?_
 refine NB.mk (fun hk36 => ?_) (fun hk36 => ?_)
 ·refine NB.yes (by assumption) ?_
  refine NB.yes (by assumption) ?_
  refine NB.yes (by assumption) ?_
  apply NDr.pure
  ·refine NB.yes (by assumption) ?_
   exact ⟨rfl, rfl⟩
  refine NDr.w _ ?_
  refine NDr.w _ ?_
  refine NP.mk (by kernel_rfl) ?_
  refine NRet.boolE (b := false) ?_ (NRet.mk [] rfl ⟨.refl _, rfl⟩)
  grind [formed, vecOk, all_le]
 apply NDr.rd [0]
 ·intro fH TH
  exact ⟨rfl, rfl⟩
 refine NB.no (by assumption) ?_
 apply NDr.rd [0]
 ·intro fH TH
  exact ⟨rfl, rfl⟩
 refine NB.no (by assumption) ?_
 refine NDr.w _ ?_
 refine NB.no (by assumption) ?_
 apply NDr.pure
 ·exact NB.det
 apply NDr.pure
 ·refine NB.no (by assumption) ?_
  exact ⟨rfl, rfl⟩
 refine NDr.w _ ?_
 refine NB.mk (fun hk46 => ?_) (fun hk46 => ?_)
 ·refine NB.yes (by assumption) ?_
  refine NB.yes (by assumption) ?_
  refine NB.yes (by assumption) ?_
  refine NB.yes (by assumption) ?_
  refine NB.yes (by assumption) ?_
  refine NB.yes (by assumption) ?_
  apply NDr.pure
  ·refine NB.yes (by assumption) ?_
   exact ⟨rfl, rfl⟩
  refine NP.mk (by kernel_rfl) ?_
  refine NRet.boolE (b := false) ?_ (NRet.mk [] rfl ⟨.refl _, rfl⟩)
  grind [formed, vecOk, all_le]
 apply NDr.rd [0]
 ·intro fH TH
  exact ⟨rfl, rfl⟩
 refine NB.no (by assumption) ?_
 apply NDr.rd [0]
 ·intro fH TH
  exact ⟨rfl, rfl⟩
 refine NB.no (by assumption) ?_
 apply NDr.rd [0]
 ·intro fH TH
  exact ⟨rfl, rfl⟩
 refine NB.no (by assumption) ?_
 apply NDr.rd [0]
 ·intro fH TH
  exact ⟨rfl, rfl⟩
 refine NB.no (by assumption) ?_
 apply NDr.pure
 ·refine NCall.call (k1) rfl rfl ?_
  exact ⟨rfl, rfl⟩
 refine NB.no (by assumption) ?_
 apply NDr.pure
 ·refine NCall.call (k2) rfl rfl ?_
  exact ⟨rfl, rfl⟩
 refine NB.no (by assumption) ?_
 apply NDr.pure
 ·exact NB.det0'
 apply NDr.pure
 ·refine NB.no (by assumption) ?_
  exact ⟨rfl, rfl⟩
 refine NP.mk (by kernel_rfl) ?_
 refine NB.mk (fun hk61 => ?_) (fun hk61 => ?_)
 ·refine NRet.boolE (b := false) ?_ (NRet.mk [] rfl ⟨.refl _, rfl⟩)
  grind [formed, vecOk, all_le]
 refine NLoop.mk [] [1, 3] (fun m vs H => ∃ i, i ≤ t.deps.length ∧ m = t.deps.length - i ∧ (∀ x ∈ t.deps.take i, decide (x ≤ 1073741824) = true) ∧ H = [.row .box (.agg 4) [txnA t]] ∧ vs = [.ptr 0 0 0, i64 i]) rfl ?_ ?_
 ·exact Canon.mk [0] rfl ⟨t.deps.length, 0, Nat.zero_le _, rfl, by simp, rfl, rfl⟩
 ·rintro m vs H ⟨i, hi, rfl, hall, rfl, rfl⟩
  by_cases hil : i < t.deps.length
  ·obtain ⟨f1, f2⟩ := all_step (p := fun x => decide (x ≤ 1073741824)) hil hall
   by_cases hd : t.deps[i] ≤ 1073741824
   ·refine ND.yes (by (simp only [zLm, zLa, zLr, zLc, zLn, zLt, zLd]; omega)) ?_
    refine NP.mk (by omega) ?_
    refine NG.mapN (by omega) ?_
    refine ND.no (by omega) ?_
    refine NW.w ?_
    exact Canon.mk [0] rfl ⟨t.deps.length - (i + 1), by omega, i + 1, by omega, rfl, f2 (decide_eq_true hd), rfl, rfl⟩
   ·have f1 := f1 (decide_eq_false hd)
    refine ND.yes (by (simp only [zLm, zLa, zLr, zLc, zLn, zLt, zLd]; omega)) ?_
    refine NP.mk (by omega) ?_
    refine NG.mapN (by omega) ?_
    refine ND.yes (by omega) ?_
    refine NRet.boolE (b := false) ?_ (NRet.mk [] rfl ⟨.refl _, rfl⟩)
    grind [formed, vecOk]
  ·have : i = t.deps.length := by omega
   subst this
   have f1 := all_end (p := fun x => decide (x ≤ 1073741824)) hall
   have hb : 0 ≤ vatI t.deps t.node ∧ vatI t.deps t.node ≤ 1073741824 := ⟨vatI_nonneg _ _, vatI_le (fun x hx => of_decide_eq_true (List.all_eq_true.1 f1 x hx)) (by omega) _⟩
   refine ND.no (by (simp only [zLm, zLa, zLr, zLc, zLn, zLt, zLd]; omega)) ?_
   refine NP.mk (by kernel_rfl) ?_
   apply NDr.rd [0]
   ·intro fH TH
    exact ⟨rfl, rfl⟩
   apply NDr.rd [0]
   ·intro fH TH
    exact ⟨rfl, rfl⟩
   apply NDr.rd [0]
   ·intro fH TH
    exact ⟨rfl, rfl⟩
   apply NDr.rd [0]
   ·intro fH TH
    exact ⟨rfl, rfl⟩
   apply NDr.pure
   ·refine NCall.call (k3) rfl rfl ?_
    exact ⟨rfl, rfl⟩
   apply NDr.pure
   ·refine NW.w ?_
    exact ⟨rfl, rfl⟩
   apply NDr.rd [0]
   ·intro fH TH
    exact ⟨rfl, rfl⟩
   apply NDr.rd [0]
   ·intro fH TH
    exact ⟨rfl, rfl⟩
   apply NDr.pure
   ·exact NB.det
   refine NDr.w _ ?_
   refine NB.mk (fun hk3 => ?_) (fun hk3 => ?_)
   ·apply NDr.rd [0]
    ·intro fH TH
     exact ⟨rfl, rfl⟩
    refine NB.yes (by assumption) ?_
    apply NDr.rd [0]
    ·intro fH TH
     exact ⟨rfl, rfl⟩
    refine NB.yes (by assumption) ?_
    apply NDr.rd [0]
    ·intro fH TH
     exact ⟨rfl, rfl⟩
    refine NB.yes (by assumption) ?_
    apply NDr.rd [0]
    ·intro fH TH
     exact ⟨rfl, rfl⟩
    refine NB.yes (by assumption) ?_
    apply NDr.rd [0]
    ·intro fH TH
     exact ⟨rfl, rfl⟩
    refine NB.yes (by assumption) ?_
    apply NDr.rd [0]
    ·intro fH TH
     exact ⟨rfl, rfl⟩
    refine NB.yes (by assumption) ?_
    apply NDr.pure
    ·refine NCall.call (k5) rfl rfl ?_
     exact ⟨rfl, rfl⟩
    apply NDr.pure
    ·refine NB.yes (by assumption) ?_
     exact ⟨rfl, rfl⟩
    refine NDr.w _ ?_
    refine NB.mk (fun hk11 => ?_) (fun hk11 => ?_)
    ·apply NDr.rd [0]
     ·intro fH TH
      exact ⟨rfl, rfl⟩
     refine NB.yes (by assumption) ?_
     apply NDr.rd [0]
     ·intro fH TH
      exact ⟨rfl, rfl⟩
     refine NB.yes (by assumption) ?_
     apply NDr.rd [0]
     ·intro fH TH
      exact ⟨rfl, rfl⟩
     refine NB.yes (by assumption) ?_
     apply NDr.rd [0]
     ·intro fH TH
      exact ⟨rfl, rfl⟩
     refine NB.yes (by assumption) ?_
     apply NDr.rd [0]
     ·intro fH TH
      exact ⟨rfl, rfl⟩
     refine NB.yes (by assumption) ?_
     apply NDr.rd [0]
     ·intro fH TH
      exact ⟨rfl, rfl⟩
     refine NB.yes (by assumption) ?_
     apply NDr.rd [0]
     ·intro fH TH
      exact ⟨rfl, rfl⟩
     refine NB.yes (by assumption) ?_
     apply NDr.rd [0]
     ·intro fH TH
      exact ⟨rfl, rfl⟩
     refine NB.yes (by assumption) ?_
     apply NDr.pure
     ·refine NCall.call (k6) rfl rfl ?_
      exact ⟨rfl, rfl⟩
     apply NDr.pure
     ·refine NB.yes (by assumption) ?_
      exact ⟨rfl, rfl⟩
     refine NDr.w _ ?_
     refine NP.mk (by kernel_rfl) ?_
     refine NRet.boolE ?_ (NRet.mk [] rfl ⟨.refl _, rfl⟩)
     grind [formed, vecOk]
    refine NB.no (by assumption) ?_
    refine NB.no (by assumption) ?_
    refine NB.no (by assumption) ?_
    refine NB.no (by assumption) ?_
    refine NB.no (by assumption) ?_
    refine NB.no (by assumption) ?_
    refine NB.no (by assumption) ?_
    refine NB.no (by assumption) ?_
    apply NDr.pure
    ·refine NB.no (by assumption) ?_
     exact ⟨rfl, rfl⟩
    refine NDr.w _ ?_
    refine NP.mk (by kernel_rfl) ?_
    refine NRet.boolE (b := false) ?_ (NRet.mk [] rfl ⟨.refl _, rfl⟩)
    grind [formed, vecOk]
   refine NB.no (by assumption) ?_
   refine NB.no (by assumption) ?_
   refine NB.no (by assumption) ?_
   refine NB.no (by assumption) ?_
   refine NB.no (by assumption) ?_
   refine NB.no (by assumption) ?_
   apply NDr.pure
   ·refine NB.no (by assumption) ?_
    exact ⟨rfl, rfl⟩
   refine NDr.w _ ?_
   refine NDr.w _ ?_
   refine NDr.w _ ?_
   refine NP.mk (by kernel_rfl) ?_
   refine NRet.boolE (b := false) ?_ (NRet.mk [] rfl ⟨.refl _, rfl⟩)
   grind [formed, vecOk]
end Go.Bv
namespace Go.Bv
set_option linter.unusedSimpArgs false
set_option linter.unusedVariables false
set_option maxHeartbeats 4000000
set_option maxRecDepth 20000
open Go Go.Proofs
def dotE (g : List Dot) : List (AV × AV) := g.map fun d => (dotA d, AV.bool true)
theorem dotE_get (k : List Dot) (i : Nat) : (dotE k)[i]? = (k[i]?).map fun d => (dotA d, AV.bool true) := by unfold dotE; rw [List.getElem?_map]
theorem NFind.dots {k : List Dot} {d : Dot} {T : Nat → AV → Prop} {E : Prop} (h1 : d ∈ k → ∀ i, (dotE k)[i]? = some (dotA d, .bool true) → T i (.bool true)) (h2 : d ∉ k → E) : NFind [0, 0, 0] (dotE k) (dotA d) T E := by
 by_cases h : d ∈ k
 ·have hex : ∃ i : Nat, k[i]? = some d := List.getElem?_of_mem h
  obtain ⟨i, hx, hmin⟩ := least_ex hex
  have hi : (dotE k)[i]? = some (dotA d, .bool true) := by rw [dotE_get, hx]; rfl
  refine .hit i (dotA d) (.bool true) hi (by rw [keyEq_dot]; simp) (fun j hj k' v' hjj => ?_) (h1 h i hi)
  rw [dotE_get] at hjj
  cases hkj : k[j]? with
  | none => rw [hkj] at hjj; simp at hjj
  | some y =>
   rw [hkj] at hjj
   simp only [Option.map_some, Option.some.injEq, Prod.mk.injEq] at hjj
   rw [← hjj.1, keyEq_dot, decide_eq_false]
   exact fun e => hmin j hj (by rw [hkj, e])
 ·refine .miss (fun j k' v' hjj => ?_) (h2 h)
  rw [dotE_get] at hjj
  cases hkj : k[j]? with
  | none => rw [hkj] at hjj; simp at hjj
  | some y =>
   rw [hkj] at hjj
   simp only [Option.map_some, Option.some.injEq, Prod.mk.injEq] at hjj
   rw [← hjj.1, keyEq_dot, decide_eq_false]
   exact fun e => h (e ▸ List.mem_of_getElem? hkj)
end Go.Bv
namespace Go.Bv
open Go Go.Proofs
end Go.Bv
namespace Go.Bv
set_option linter.unusedSimpArgs false
set_option linter.unusedVariables false
set_option maxHeartbeats 4000000
set_option maxRecDepth 20000
open Go Go.Proofs
end Go.Bv
namespace Go.Bv
set_option linter.unusedSimpArgs false
set_option linter.unusedVariables false
set_option maxHeartbeats 4000000
set_option maxRecDepth 20000
open Go Go.Proofs
end Go.Bv
