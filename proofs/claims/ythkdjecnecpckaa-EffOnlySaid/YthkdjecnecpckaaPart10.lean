/- Part of the lift: an abstract walk of the program's code, proved sound, and what it shows of this program. -/
import Derived.Test.YthkdjecnecpckaaPart9
import Derived.Sort.Walk13a
import Derived.Test.YthkdjecnecpckaaPart7
namespace Go.Bv
set_option linter.unusedSimpArgs false
set_option linter.unusedVariables false
set_option maxHeartbeats 4000000
set_option maxRecDepth 20000
open Go Go.Proofs
open Go.Sort (insertionSort heapSort breakPatterns choosePivot reverseRange partialInsertionSort partition partitionEqual pdq rd Below hintCode Hint)
def PdqOk (P : Program) (n : Nat) : Prop := ∀ (l : List Item) (a b limit : Nat), b - a ≤ n → a ≤ b → b ≤ l.length → l.length ≤ 60000 → limit ≤ 100000 → Below ltI a b l.toArray → ACalls P Nm.slices_pdqsortCmpFunc_api_Item [.own 0 0 l.length, i64 a, i64 b, i64 limit, .fn Nm.item_compare []]
    [.row .vrow (.agg 8) (l.map itemA)] (.tup []) [.row .vrow (.agg 8) ((pdq ltI l.toArray a b limit true true).toList.map itemA)]
theorem pdq_walk : ∀ n, PdqOk Try.prog n := by
  intro n
  induction n with
  | zero =>
    intro l a b limit hn hab hb hl hlim hB
    refine ACalls_of tab (dr_snd tab mixed) Nm.slices_pdqsortCmpFunc_api_Item_h rfl (by kernel_rfl) (Nat.le_of_ble_eq_true rfl) rfl ?_
    have k1 := insertion_walk l a b hb (by omega) (by omega)
    rw [Go.Sort.pdq_small (lt := ltI) (d := l.toArray) (by omega)]
    skip
    refine NLoop.mk [] [0, 1, 2, 3, 4, 10, 11] (fun m vs H => m = 0 ∧ H = [.row .vrow (.agg 8) (l.map itemA)] ∧ vs = [.own 0 0 l.length, i64 a, i64 b, i64 limit, .fn Nm.item_compare [], .bool true, .bool true]) rfl ?_ ?_
    · exact Canon.mk [] rfl ⟨_, rfl, rfl, rfl⟩
    rintro m vs H ⟨rfl, rfl, rfl⟩
    refine NW.i64 (by omega) (by omega) ?_
    refine ND.yes (by omega) ?_
    refine NCall.atA (k1) ?_
    exact NRet.mk [] rfl ⟨.refl _, rfl⟩
  | succ n ih =>
    intro l a b limit hn hab hb hl hlim hB
    refine ACalls_of tab (dr_snd tab mixed) Nm.slices_pdqsortCmpFunc_api_Item_h rfl (by kernel_rfl) (Nat.le_of_ble_eq_true rfl) rfl ?_
    skip
    refine NLoop.mk [] [0, 1, 2, 3, 4, 10, 11] (fun m vs H => ∃ (a' b' lim : Nat) (wb wp : Bool) (e : List Item), m = b' - a' ∧ a' ≤ b' ∧ b' - a' ≤ n + 1 ∧ b' ≤ l.length ∧ lim ≤ limit ∧ e.length = l.length ∧ Below ltI a' b' e.toArray ∧
      pdq ltI e.toArray a' b' lim wb wp = pdq ltI l.toArray a b limit true true ∧ H = [.row .vrow (.agg 8) (e.map itemA)] ∧ vs = [.own 0 0 l.length, i64 a', i64 b', i64 lim, .fn Nm.item_compare [], .bool wb, .bool wp]) rfl ?_ ?_
    · exact Canon.mk [] rfl ⟨_, a, b, limit, true, true, l, rfl, hab, hn, hb, Nat.le_refl _, rfl, hB, rfl, rfl, rfl⟩
    rintro m vs H ⟨a', b', lim, wb, wp, e, rfl, hab', hn', hb', hlim', hel, hBe, he, rfl, rfl⟩
    rw [← he]
    clear he hB hn hab hb
    have hnS : b' ≤ a' + n + 1 := by omega
    clear hn'
    by_cases h12 : b' - a' ≤ 12
    · have k1 := insertion_walk e a' b' (by omega) (by omega) (by omega)
      rw [hel] at k1
      rw [Go.Sort.pdq_small (lt := ltI) (d := e.toArray) h12]
      refine NW.i64 (by omega) (by omega) ?_
      refine ND.yes (by omega) ?_
      refine NCall.atA (k1) ?_
      exact NRet.mk [] rfl ⟨.refl _, rfl⟩
    by_cases hl0 : lim = 0
    · have k1 := heapSort_walk e a' b' (by omega) (by omega) (by omega)
      rw [hel] at k1
      rw [Go.Sort.pdq_heap (lt := ltI) (d := e.toArray) h12 hl0]
      refine NW.i64 (by omega) (by omega) ?_
      refine ND.no (by omega) ?_
      refine ND.yes (by omega) ?_
      refine NCall.atA (k1) ?_
      exact NRet.mk [] rfl ⟨.refl _, rfl⟩
    obtain ⟨s1, B1, hc1, s2, B2, hpv, s3, B3⟩ := Go.Sort.rd_facts (lt := ltI) (d := e.toArray) (a := a') (b := b') (limit := lim) (wb := wb) (wp := wp) swoI Go.Sort.partialInsertionSort_holds Go.Sort.reverseRange_holds (show a' < b' by omega) (by simpa using (by omega : b' ≤ e.length)) hBe
    have hdone := fun h => Go.Sort.pdq_done (lt := ltI) (d := e.toArray) (a := a') (b := b') (limit := lim) (wb := wb) (wp := wp) h12 hl0 h
    have heq := fun h g => Go.Sort.pdq_eq (lt := ltI) (d := e.toArray) (a := a') (b := b') (limit := lim) (wb := wb) (wp := wp) h12 hl0 h g
    have hleft := fun h g => Go.Sort.pdq_left (lt := ltI) (d := e.toArray) (a := a') (b := b') (limit := lim) (wb := wb) (wp := wp) h12 hl0 h g
    have hright := fun h g => Go.Sort.pdq_right (lt := ltI) (d := e.toArray) (a := a') (b := b') (limit := lim) (wb := wb) (wp := wp) h12 hl0 h g
    have h12S : a' + 12 < b' := by omega
    clear h12
    have hrc := Go.Sort.rd_c (lt := ltI) (d := e.toArray) (a := a') (b := b') (limit := lim) (wb := wb) (wp := wp)
    have hdec := Go.Sort.rd_dec (lt := ltI) (d := e.toArray) (a := a') (b := b') (limit := lim) (wb := wb) (wp := wp)
    have hnot := Go.Sort.rd_not (lt := ltI) (d := e.toArray) (a := a') (b := b') (limit := lim) (wb := wb) (wp := wp)
    have hyes := Go.Sort.rd_pi_yes (lt := ltI) (d := e.toArray) (a := a') (b := b') (limit := lim) (wb := wb) (wp := wp)
    have hno := Go.Sort.rd_pi_no (lt := ltI) (d := e.toArray) (a := a') (b := b') (limit := lim) (wb := wb) (wp := wp)
    have hf1 : wb = false → (rd ltI e.toArray a' b' lim wb wp).d1 = breakPatterns e.toArray a' b' ∧ (rd ltI e.toArray a' b' lim wb wp).lim = lim - 1 := fun h => by subst h; exact Go.Sort.rd_false (lt := ltI) (d := e.toArray) (a := a') (b := b') (limit := lim) (wp := wp)
    have hf2 : wb = true → (rd ltI e.toArray a' b' lim wb wp).d1 = e.toArray ∧ (rd ltI e.toArray a' b' lim wb wp).lim = lim := fun h => by subst h; exact Go.Sort.rd_true (lt := ltI) (d := e.toArray) (a := a') (b := b') (limit := lim) (wp := wp)
    have kb := break_walk e a' b' (by omega) (by omega) (by omega)
    rw [hel] at kb
    generalize rd ltI e.toArray a' b' lim wb wp = D at *
    simp only [List.size_toArray] at s1 s2 s3
    have kc := choosePivot_walk D.d1.toList a' b' (by omega) (by simpa using (by omega : b' ≤ D.d1.size)) (by simpa using (by omega : D.d1.size ≤ 2 ^ 39))
    have kr := reverse_walk D.d1.toList a' b' (by omega) (by simpa using (by omega : b' ≤ D.d1.size)) (by simpa using (by omega : D.d1.size ≤ 2 ^ 39))
    have kp := partialIns_walk D.d2.toList a' b' (by omega) (by simpa using (by omega : b' ≤ D.d2.size)) (by simpa using (by omega : D.d2.size ≤ 2 ^ 39))
    have z1 : D.d1.toList.length = l.length := by simp; omega
    have z2 : D.d2.toList.length = l.length := by simp; omega
    have z3 : D.pi.1.toList.length = l.length := by simp; omega
    rw [z1, toA, ← hrc] at kc
    rw [z1, toA] at kr
    rw [z2, toA] at kp
    have kd := partition_walk D.pi.1.toList a' b' D.pivot hpv.1 hpv.2 (by omega) (by omega)
    have ke := partitionEqual_walk D.pi.1.toList a' b' D.pivot hpv.1 hpv.2 (by omega) (by omega)
    rw [z3, toA] at kd ke
    obtain ⟨mid, apd, d4, hx⟩ : ∃ mid apd d4, partition ltI D.pi.1 a' b' D.pivot = (mid, apd, d4) := ⟨_, _, _, rfl⟩
    obtain ⟨r1, r2, r3, r4, r5, r6, r7⟩ := Go.Sort.round_part swoI (Go.Sort.partition_holds ltI) hpv.1 hpv.2 (by omega) B3 hx
    have hleft := fun h g => hleft h g (by rw [hx]; exact ⟨r1, r2⟩)
    have hright := fun h g => hright h g (by rw [hx]; exact ⟨r1, r2⟩)
    rw [hx] at kd hleft hright
    dsimp only at kd hleft hright
    have z4 : d4.toList.length = l.length := by simp; omega
    have hl8 : lim ≤ 100000 := by omega
    have hll : D.lim ≤ 100000 := by
      cases wb with
      | false => have := (hf1 rfl).2; omega
      | true => have := (hf2 rfl).2; omega
    have hlq : D.lim ≤ limit := by
      cases wb with
      | false => have := (hf1 rfl).2; omega
      | true => have := (hf2 rfl).2; omega
    have q1 := ih d4.toList a' mid D.lim (by omega) (by omega) (by omega) (by omega) (by omega) (by rw [toA]; exact r4)
    have q2 := ih d4.toList (mid + 1) b' D.lim (by omega) (by omega) (by omega) (by omega) (by omega) (by rw [toA]; exact r5)
    rw [z4, toA] at q1 q2
    obtain ⟨pL, sL⟩ := Go.Sort.pdq_sorts ltI swoI d4 a' mid D.lim true true (by omega) (by omega) r4
    obtain ⟨pR, sR⟩ := Go.Sort.pdq_sorts ltI swoI d4 (mid + 1) b' D.lim true true (by omega) (by omega) r5
    have bL := (r6 _ pL sL).1
    have bR := (r7 _ pR sR).1
    have tL := pL.1
    have tR := pR.1
    clear r6 r7 pL sL pR sR ih B1 B2 hBe hrc hx r4 r5
    obtain ⟨q8, hq8⟩ : ∃ k, k = (b' - a') / 8 := ⟨_, rfl⟩
    have e8 : True → ((b' : Int) - (a' : Int)).tdiv 8 = (q8 : Int) := fun _ => by
      rw [hq8, show (b' : Int) - (a' : Int) = ((b' - a' : Nat) : Int) by omega]
      exact (Int.ofNat_tdiv (b' - a') 8).symm
    rw [← hq8] at hleft hright
    have hqS : 8 * q8 ≤ b' := by omega
    clear hq8
    have zL : (pdq ltI d4 a' mid D.lim true true).size = l.length := by omega
    have zR : (pdq ltI d4 (mid + 1) b' D.lim true true).size = l.length := by omega
    have sz3 : D.pi.1.size = l.length := by omega
    clear tL tR s1 s2 s3 r3 z4
    cases wb with
    | false =>
      obtain ⟨hd1, hdl⟩ := hf1 rfl
      rw [← hd1] at kb
      have el : True → (lim : Int) - 1 = (D.lim : Int) := fun _ => by omega
      have epi := hno (by simp)
      have hp2 : D.pi.2 = false := by rw [epi]
      by_cases hh : D.c.2 = .decreasing
      · have hcode : hintCode D.c.2 = 2 := by rw [hh]; rfl
        obtain ⟨e2, ep, eh⟩ := hdec hh
        rw [← e2] at kr
        have epv : True → ((b' : Int) - 1) - ((D.c.1 : Int) - (a' : Int)) = (D.pivot : Int) := fun _ => by omega
        clear ep
        have hrow3 : D.pi.1.toList.map itemA = D.d2.toList.map itemA := by rw [epi]
        rw [hrow3] at kd ke
        have hcur : D.pi.1 = (D.d2.toList).toArray := by rw [epi, toA]
        have gp : D.pivot < (D.d2.toList).length := by omega
        by_cases ha0 : a' = 0
        · have dec0 : ¬ a' > 0 := by omega
          have h87 : (decide (a' > 0) && !ltI D.pi.1[a' - 1]! D.pi.1[D.pivot]!) = false := by rw [decide_eq_false dec0]; rfl
          have hleft := hleft hp2 h87
          have hright := hright hp2 h87
          by_cases h4 : mid - a' < b' - mid
          · have hL := hleft h4
            have h4S : mid + mid < a' + b' := by omega
            clear h4
            refine NW.i64 (by omega) (by omega) ?_
            refine ND.no (by omega) ?_
            refine ND.no (by omega) ?_
            refine NCall.atA (kb) ?_
            refine NW.i64 (by omega) (by omega) ?_
            rw [(el trivial)]
            refine NCall.atA (kc) ?_
            refine ND.yes (by omega) ?_
            refine NCall.atA (kr) ?_
            refine NW.i64 (by omega) (by omega) ?_
            refine NW.i64 (by omega) (by omega) ?_
            refine NW.i64 (by omega) (by omega) ?_
            rw [(epv trivial)]
            refine NP.mk (by kernel_rfl) ?_
            apply NDr.pure
            · exact ⟨rfl, rfl⟩
            apply NDr.pure
            · refine ND.no (by omega) ?_
              exact ⟨rfl, rfl⟩
            apply NDr.pure
            · exact ⟨rfl, rfl⟩
            apply NDr.pure
            · exact ⟨rfl, rfl⟩
            refine NP.mk (by kernel_rfl) ?_
            refine NCall.atA (kd) ?_
            refine NW.i64 (by omega) (by omega) ?_
            refine NW.i64 (by omega) (by omega) ?_
            refine NP.mk (by omega) ?_
            rw [(e8 trivial)]
            refine NW.i64 (by omega) (by omega) ?_
            refine ND.yes (by omega) ?_
            refine NB.dec (fun h8 => ?_) (fun h8 => ?_)
            · have hL := hL
              rw [decide_eq_true (show mid - a' ≥ q8 by omega)] at hL
              refine NCall.atA (q1) ?_
              refine NW.i64 (by omega) (by omega) ?_
              exact Canon.mk [] rfl ⟨b' - (mid + 1), by omega, mid + 1, b', D.lim, true, apd, (pdq ltI d4 a' mid D.lim true true).toList, rfl, by omega, by omega, by omega, by omega, by simp; omega, by rw [toA]; exact bL, by rw [toA, hL], rfl, rfl⟩
            · have hL := hL
              rw [decide_eq_false (show ¬ (mid - a' ≥ q8) by omega)] at hL
              refine NCall.atA (q1) ?_
              refine NW.i64 (by omega) (by omega) ?_
              exact Canon.mk [] rfl ⟨b' - (mid + 1), by omega, mid + 1, b', D.lim, false, apd, (pdq ltI d4 a' mid D.lim true true).toList, rfl, by omega, by omega, by omega, by omega, by simp; omega, by rw [toA]; exact bL, by rw [toA, hL], rfl, rfl⟩
          · rw [show ((mid + 1 : Nat) : Int) = (mid : Int) + 1 by omega] at q2
            have hR := hright h4
            have h4S : ¬ mid + mid < a' + b' := by omega
            clear h4
            refine NW.i64 (by omega) (by omega) ?_
            refine ND.no (by omega) ?_
            refine ND.no (by omega) ?_
            refine NCall.atA (kb) ?_
            refine NW.i64 (by omega) (by omega) ?_
            rw [(el trivial)]
            refine NCall.atA (kc) ?_
            refine ND.yes (by omega) ?_
            refine NCall.atA (kr) ?_
            refine NW.i64 (by omega) (by omega) ?_
            refine NW.i64 (by omega) (by omega) ?_
            refine NW.i64 (by omega) (by omega) ?_
            rw [(epv trivial)]
            refine NP.mk (by kernel_rfl) ?_
            apply NDr.pure
            · exact ⟨rfl, rfl⟩
            apply NDr.pure
            · refine ND.no (by omega) ?_
              exact ⟨rfl, rfl⟩
            apply NDr.pure
            · exact ⟨rfl, rfl⟩
            apply NDr.pure
            · exact ⟨rfl, rfl⟩
            refine NP.mk (by kernel_rfl) ?_
            refine NCall.atA (kd) ?_
            refine NW.i64 (by omega) (by omega) ?_
            refine NW.i64 (by omega) (by omega) ?_
            refine NP.mk (by omega) ?_
            rw [(e8 trivial)]
            refine NW.i64 (by omega) (by omega) ?_
            refine ND.no (by omega) ?_
            refine NB.dec (fun h8 => ?_) (fun h8 => ?_)
            · have hR := hR
              rw [decide_eq_true (show b' - mid ≥ q8 by omega)] at hR
              refine NW.i64 (by omega) (by omega) ?_
              refine NCall.atA (q2) ?_
              exact Canon.mk [] rfl ⟨mid - a', by omega, a', mid, D.lim, true, apd, (pdq ltI d4 (mid + 1) b' D.lim true true).toList, rfl, by omega, by omega, by omega, by omega, by simp; omega, by rw [toA]; exact bR, by rw [toA, hR], rfl, rfl⟩
            · have hR := hR
              rw [decide_eq_false (show ¬ (b' - mid ≥ q8) by omega)] at hR
              refine NW.i64 (by omega) (by omega) ?_
              refine NCall.atA (q2) ?_
              exact Canon.mk [] rfl ⟨mid - a', by omega, a', mid, D.lim, false, apd, (pdq ltI d4 (mid + 1) b' D.lim true true).toList, rfl, by omega, by omega, by omega, by omega, by simp; omega, by rw [toA]; exact bR, by rw [toA, hR], rfl, rfl⟩
        · have ga : a' - 1 < (D.d2.toList).length := by omega
          have ea : True → Int.toNat ((a' : Int) - 1) = a' - 1 := fun _ => by omega
          have b1 := item_compare_walk (D.d2.toList)[a' - 1] (D.d2.toList)[D.pivot]
          have y1 := getA ga
          have y2 := getA gp
          cases t : ltI (D.d2.toList)[a' - 1] (D.d2.toList)[D.pivot] with
          | true =>
            have u := ltT t
            have h87 : (decide (a' > 0) && !ltI D.pi.1[a' - 1]! D.pi.1[D.pivot]!) = false := by rw [hcur, y1, y2, t]; simp
            have hleft := hleft hp2 h87
            have hright := hright hp2 h87
            by_cases h4 : mid - a' < b' - mid
            · have hL := hleft h4
              have h4S : mid + mid < a' + b' := by omega
              clear h4
              refine NW.i64 (by omega) (by omega) ?_
              refine ND.no (by omega) ?_
              refine ND.no (by omega) ?_
              refine NCall.atA (kb) ?_
              refine NW.i64 (by omega) (by omega) ?_
              rw [(el trivial)]
              refine NCall.atA (kc) ?_
              refine ND.yes (by omega) ?_
              refine NCall.atA (kr) ?_
              refine NW.i64 (by omega) (by omega) ?_
              refine NW.i64 (by omega) (by omega) ?_
              refine NW.i64 (by omega) (by omega) ?_
              rw [(epv trivial)]
              refine NP.mk (by kernel_rfl) ?_
              apply NDr.pure
              · exact ⟨rfl, rfl⟩
              apply NDr.pure
              · refine ND.yes (by omega) ?_
                exact ⟨rfl, rfl⟩
              apply NDr.pure
              · exact ⟨rfl, rfl⟩
              apply NDr.pure
              · exact ⟨rfl, rfl⟩
              apply NDr.any
              · intro H'
                exact ⟨rfl, rfl⟩
              apply NDr.pure
              · exact ⟨rfl, rfl⟩
              apply NDr.pure
              · refine NW.i64 (by omega) (by omega) ?_
                exact ⟨rfl, rfl⟩
              apply NDr.rd [0]
              · intro fH TH
                refine NP.mk (by (simp only [List.length_map, List.length_append, List.length_replicate, List.length_cons, List.length_nil, List.length_take, List.length_drop]; omega)) ?_
                rw [(ea trivial)]
                exact ⟨rfl, rfl⟩
              apply NDr.rd [0]
              · intro fH TH
                refine NG.map0N (by omega) ?_
                exact ⟨rfl, rfl⟩
              apply NDr.any
              · intro H'
                exact ⟨rfl, rfl⟩
              apply NDr.pure
              · exact ⟨rfl, rfl⟩
              apply NDr.rd [0]
              · intro fH TH
                refine NP.mk (by (simp only [List.length_map, List.length_append, List.length_replicate, List.length_cons, List.length_nil, List.length_take, List.length_drop]; omega)) ?_
                exact ⟨rfl, rfl⟩
              apply NDr.rd [0]
              · intro fH TH
                refine NG.map0N (by omega) ?_
                exact ⟨rfl, rfl⟩
              apply NDr.pure
              · refine NCall.call (b1) rfl rfl ?_
                exact ⟨rfl, rfl⟩
              apply NDr.pure
              · refine ND.yes (by omega) ?_
                exact ⟨rfl, rfl⟩
              apply NDr.pure
              · exact ⟨rfl, rfl⟩
              apply NDr.pure
              · exact ⟨rfl, rfl⟩
              refine NP.mk (by kernel_rfl) ?_
              refine NCall.atA (kd) ?_
              refine NW.i64 (by omega) (by omega) ?_
              refine NW.i64 (by omega) (by omega) ?_
              refine NP.mk (by omega) ?_
              rw [(e8 trivial)]
              refine NW.i64 (by omega) (by omega) ?_
              refine ND.yes (by omega) ?_
              refine NB.dec (fun h8 => ?_) (fun h8 => ?_)
              · have hL := hL
                rw [decide_eq_true (show mid - a' ≥ q8 by omega)] at hL
                refine NCall.atA (q1) ?_
                refine NW.i64 (by omega) (by omega) ?_
                exact Canon.mk [] rfl ⟨b' - (mid + 1), by omega, mid + 1, b', D.lim, true, apd, (pdq ltI d4 a' mid D.lim true true).toList, rfl, by omega, by omega, by omega, by omega, by simp; omega, by rw [toA]; exact bL, by rw [toA, hL], rfl, rfl⟩
              · have hL := hL
                rw [decide_eq_false (show ¬ (mid - a' ≥ q8) by omega)] at hL
                refine NCall.atA (q1) ?_
                refine NW.i64 (by omega) (by omega) ?_
                exact Canon.mk [] rfl ⟨b' - (mid + 1), by omega, mid + 1, b', D.lim, false, apd, (pdq ltI d4 a' mid D.lim true true).toList, rfl, by omega, by omega, by omega, by omega, by simp; omega, by rw [toA]; exact bL, by rw [toA, hL], rfl, rfl⟩
            · rw [show ((mid + 1 : Nat) : Int) = (mid : Int) + 1 by omega] at q2
              have hR := hright h4
              have h4S : ¬ mid + mid < a' + b' := by omega
              clear h4
              refine NW.i64 (by omega) (by omega) ?_
              refine ND.no (by omega) ?_
              refine ND.no (by omega) ?_
              refine NCall.atA (kb) ?_
              refine NW.i64 (by omega) (by omega) ?_
              rw [(el trivial)]
              refine NCall.atA (kc) ?_
              refine ND.yes (by omega) ?_
              refine NCall.atA (kr) ?_
              refine NW.i64 (by omega) (by omega) ?_
              refine NW.i64 (by omega) (by omega) ?_
              refine NW.i64 (by omega) (by omega) ?_
              rw [(epv trivial)]
              refine NP.mk (by kernel_rfl) ?_
              apply NDr.pure
              · exact ⟨rfl, rfl⟩
              apply NDr.pure
              · refine ND.yes (by omega) ?_
                exact ⟨rfl, rfl⟩
              apply NDr.pure
              · exact ⟨rfl, rfl⟩
              apply NDr.pure
              · exact ⟨rfl, rfl⟩
              apply NDr.any
              · intro H'
                exact ⟨rfl, rfl⟩
              apply NDr.pure
              · exact ⟨rfl, rfl⟩
              apply NDr.pure
              · refine NW.i64 (by omega) (by omega) ?_
                exact ⟨rfl, rfl⟩
              apply NDr.rd [0]
              · intro fH TH
                refine NP.mk (by (simp only [List.length_map, List.length_append, List.length_replicate, List.length_cons, List.length_nil, List.length_take, List.length_drop]; omega)) ?_
                rw [(ea trivial)]
                exact ⟨rfl, rfl⟩
              apply NDr.rd [0]
              · intro fH TH
                refine NG.map0N (by omega) ?_
                exact ⟨rfl, rfl⟩
              apply NDr.any
              · intro H'
                exact ⟨rfl, rfl⟩
              apply NDr.pure
              · exact ⟨rfl, rfl⟩
              apply NDr.rd [0]
              · intro fH TH
                refine NP.mk (by (simp only [List.length_map, List.length_append, List.length_replicate, List.length_cons, List.length_nil, List.length_take, List.length_drop]; omega)) ?_
                exact ⟨rfl, rfl⟩
              apply NDr.rd [0]
              · intro fH TH
                refine NG.map0N (by omega) ?_
                exact ⟨rfl, rfl⟩
              apply NDr.pure
              · refine NCall.call (b1) rfl rfl ?_
                exact ⟨rfl, rfl⟩
              apply NDr.pure
              · refine ND.yes (by omega) ?_
                exact ⟨rfl, rfl⟩
              apply NDr.pure
              · exact ⟨rfl, rfl⟩
              apply NDr.pure
              · exact ⟨rfl, rfl⟩
              refine NP.mk (by kernel_rfl) ?_
              refine NCall.atA (kd) ?_
              refine NW.i64 (by omega) (by omega) ?_
              refine NW.i64 (by omega) (by omega) ?_
              refine NP.mk (by omega) ?_
              rw [(e8 trivial)]
              refine NW.i64 (by omega) (by omega) ?_
              refine ND.no (by omega) ?_
              refine NB.dec (fun h8 => ?_) (fun h8 => ?_)
              · have hR := hR
                rw [decide_eq_true (show b' - mid ≥ q8 by omega)] at hR
                refine NW.i64 (by omega) (by omega) ?_
                refine NCall.atA (q2) ?_
                exact Canon.mk [] rfl ⟨mid - a', by omega, a', mid, D.lim, true, apd, (pdq ltI d4 (mid + 1) b' D.lim true true).toList, rfl, by omega, by omega, by omega, by omega, by simp; omega, by rw [toA]; exact bR, by rw [toA, hR], rfl, rfl⟩
              · have hR := hR
                rw [decide_eq_false (show ¬ (b' - mid ≥ q8) by omega)] at hR
                refine NW.i64 (by omega) (by omega) ?_
                refine NCall.atA (q2) ?_
                exact Canon.mk [] rfl ⟨mid - a', by omega, a', mid, D.lim, false, apd, (pdq ltI d4 (mid + 1) b' D.lim true true).toList, rfl, by omega, by omega, by omega, by omega, by simp; omega, by rw [toA]; exact bR, by rw [toA, hR], rfl, rfl⟩
          | false =>
            have u := ltF t
            have h87 : (decide (a' > 0) && !ltI D.pi.1[a' - 1]! D.pi.1[D.pivot]!) = true := by rw [hcur, y1, y2, t]; simp; omega
            obtain ⟨mi, d5, hy⟩ : ∃ mi d5, partitionEqual ltI D.pi.1 a' b' D.pivot = (mi, d5) := ⟨_, _, rfl⟩
            obtain ⟨r1, r2, r3, r4, _⟩ := Go.Sort.round_eq swoI (Go.Sort.partitionEqual_holds ltI) (by omega) hpv.1 hpv.2 (by omega) B3 (by rw [hcur, y1, y2, t]) hy
            have heq := heq hp2 h87 (by rw [hy]; exact ⟨r1, r2⟩)
            rw [hy] at ke heq
            dsimp only at ke heq
            refine NW.i64 (by omega) (by omega) ?_
            refine ND.no (by omega) ?_
            refine ND.no (by omega) ?_
            refine NCall.atA (kb) ?_
            refine NW.i64 (by omega) (by omega) ?_
            rw [(el trivial)]
            refine NCall.atA (kc) ?_
            refine ND.yes (by omega) ?_
            refine NCall.atA (kr) ?_
            refine NW.i64 (by omega) (by omega) ?_
            refine NW.i64 (by omega) (by omega) ?_
            refine NW.i64 (by omega) (by omega) ?_
            rw [(epv trivial)]
            refine NP.mk (by kernel_rfl) ?_
            apply NDr.pure
            · exact ⟨rfl, rfl⟩
            apply NDr.pure
            · refine ND.yes (by omega) ?_
              exact ⟨rfl, rfl⟩
            apply NDr.pure
            · exact ⟨rfl, rfl⟩
            apply NDr.pure
            · exact ⟨rfl, rfl⟩
            apply NDr.any
            · intro H'
              exact ⟨rfl, rfl⟩
            apply NDr.pure
            · exact ⟨rfl, rfl⟩
            apply NDr.pure
            · refine NW.i64 (by omega) (by omega) ?_
              exact ⟨rfl, rfl⟩
            apply NDr.rd [0]
            · intro fH TH
              refine NP.mk (by (simp only [List.length_map, List.length_append, List.length_replicate, List.length_cons, List.length_nil, List.length_take, List.length_drop]; omega)) ?_
              rw [(ea trivial)]
              exact ⟨rfl, rfl⟩
            apply NDr.rd [0]
            · intro fH TH
              refine NG.map0N (by omega) ?_
              exact ⟨rfl, rfl⟩
            apply NDr.any
            · intro H'
              exact ⟨rfl, rfl⟩
            apply NDr.pure
            · exact ⟨rfl, rfl⟩
            apply NDr.rd [0]
            · intro fH TH
              refine NP.mk (by (simp only [List.length_map, List.length_append, List.length_replicate, List.length_cons, List.length_nil, List.length_take, List.length_drop]; omega)) ?_
              exact ⟨rfl, rfl⟩
            apply NDr.rd [0]
            · intro fH TH
              refine NG.map0N (by omega) ?_
              exact ⟨rfl, rfl⟩
            apply NDr.pure
            · refine NCall.call (b1) rfl rfl ?_
              exact ⟨rfl, rfl⟩
            apply NDr.pure
            · refine ND.no (by omega) ?_
              exact ⟨rfl, rfl⟩
            apply NDr.pure
            · exact ⟨rfl, rfl⟩
            apply NDr.pure
            · exact ⟨rfl, rfl⟩
            refine NP.mk (by kernel_rfl) ?_
            refine NCall.atA (ke) ?_
            exact Canon.mk [] rfl ⟨b' - mi, by omega, mi, b', D.lim, false, wp, d5.toList, rfl, by omega, by omega, by omega, by omega, by simp; omega, by rw [toA]; exact r4, by rw [toA, heq], rfl, rfl⟩
      · have hcode : ¬ hintCode D.c.2 = 2 := by cases h : D.c.2 with | decreasing => exact absurd h hh | increasing => simp [hintCode] | unknown => simp [hintCode]
        obtain ⟨e2, ep, eh⟩ := hnot hh
        rw [← ep] at kc
        have hrow3 : D.pi.1.toList.map itemA = D.d1.toList.map itemA := by rw [epi, e2]
        rw [hrow3] at kd ke
        have hcur : D.pi.1 = (D.d1.toList).toArray := by rw [epi, e2, toA]
        have gp : D.pivot < (D.d1.toList).length := by omega
        by_cases ha0 : a' = 0
        · have dec0 : ¬ a' > 0 := by omega
          have h87 : (decide (a' > 0) && !ltI D.pi.1[a' - 1]! D.pi.1[D.pivot]!) = false := by rw [decide_eq_false dec0]; rfl
          have hleft := hleft hp2 h87
          have hright := hright hp2 h87
          by_cases h4 : mid - a' < b' - mid
          · have hL := hleft h4
            have h4S : mid + mid < a' + b' := by omega
            clear h4
            refine NW.i64 (by omega) (by omega) ?_
            refine ND.no (by omega) ?_
            refine ND.no (by omega) ?_
            refine NCall.atA (kb) ?_
            refine NW.i64 (by omega) (by omega) ?_
            rw [(el trivial)]
            refine NCall.atA (kc) ?_
            refine ND.no (by omega) ?_
            refine NP.mk (by kernel_rfl) ?_
            apply NDr.pure
            · exact ⟨rfl, rfl⟩
            apply NDr.pure
            · refine ND.no (by omega) ?_
              exact ⟨rfl, rfl⟩
            apply NDr.pure
            · exact ⟨rfl, rfl⟩
            apply NDr.pure
            · exact ⟨rfl, rfl⟩
            refine NP.mk (by kernel_rfl) ?_
            refine NCall.atA (kd) ?_
            refine NW.i64 (by omega) (by omega) ?_
            refine NW.i64 (by omega) (by omega) ?_
            refine NP.mk (by omega) ?_
            rw [(e8 trivial)]
            refine NW.i64 (by omega) (by omega) ?_
            refine ND.yes (by omega) ?_
            refine NB.dec (fun h8 => ?_) (fun h8 => ?_)
            · have hL := hL
              rw [decide_eq_true (show mid - a' ≥ q8 by omega)] at hL
              refine NCall.atA (q1) ?_
              refine NW.i64 (by omega) (by omega) ?_
              exact Canon.mk [] rfl ⟨b' - (mid + 1), by omega, mid + 1, b', D.lim, true, apd, (pdq ltI d4 a' mid D.lim true true).toList, rfl, by omega, by omega, by omega, by omega, by simp; omega, by rw [toA]; exact bL, by rw [toA, hL], rfl, rfl⟩
            · have hL := hL
              rw [decide_eq_false (show ¬ (mid - a' ≥ q8) by omega)] at hL
              refine NCall.atA (q1) ?_
              refine NW.i64 (by omega) (by omega) ?_
              exact Canon.mk [] rfl ⟨b' - (mid + 1), by omega, mid + 1, b', D.lim, false, apd, (pdq ltI d4 a' mid D.lim true true).toList, rfl, by omega, by omega, by omega, by omega, by simp; omega, by rw [toA]; exact bL, by rw [toA, hL], rfl, rfl⟩
          · rw [show ((mid + 1 : Nat) : Int) = (mid : Int) + 1 by omega] at q2
            have hR := hright h4
            have h4S : ¬ mid + mid < a' + b' := by omega
            clear h4
            refine NW.i64 (by omega) (by omega) ?_
            refine ND.no (by omega) ?_
            refine ND.no (by omega) ?_
            refine NCall.atA (kb) ?_
            refine NW.i64 (by omega) (by omega) ?_
            rw [(el trivial)]
            refine NCall.atA (kc) ?_
            refine ND.no (by omega) ?_
            refine NP.mk (by kernel_rfl) ?_
            apply NDr.pure
            · exact ⟨rfl, rfl⟩
            apply NDr.pure
            · refine ND.no (by omega) ?_
              exact ⟨rfl, rfl⟩
            apply NDr.pure
            · exact ⟨rfl, rfl⟩
            apply NDr.pure
            · exact ⟨rfl, rfl⟩
            refine NP.mk (by kernel_rfl) ?_
            refine NCall.atA (kd) ?_
            refine NW.i64 (by omega) (by omega) ?_
            refine NW.i64 (by omega) (by omega) ?_
            refine NP.mk (by omega) ?_
            rw [(e8 trivial)]
            refine NW.i64 (by omega) (by omega) ?_
            refine ND.no (by omega) ?_
            refine NB.dec (fun h8 => ?_) (fun h8 => ?_)
            · have hR := hR
              rw [decide_eq_true (show b' - mid ≥ q8 by omega)] at hR
              refine NW.i64 (by omega) (by omega) ?_
              refine NCall.atA (q2) ?_
              exact Canon.mk [] rfl ⟨mid - a', by omega, a', mid, D.lim, true, apd, (pdq ltI d4 (mid + 1) b' D.lim true true).toList, rfl, by omega, by omega, by omega, by omega, by simp; omega, by rw [toA]; exact bR, by rw [toA, hR], rfl, rfl⟩
            · have hR := hR
              rw [decide_eq_false (show ¬ (b' - mid ≥ q8) by omega)] at hR
              refine NW.i64 (by omega) (by omega) ?_
              refine NCall.atA (q2) ?_
              exact Canon.mk [] rfl ⟨mid - a', by omega, a', mid, D.lim, false, apd, (pdq ltI d4 (mid + 1) b' D.lim true true).toList, rfl, by omega, by omega, by omega, by omega, by simp; omega, by rw [toA]; exact bR, by rw [toA, hR], rfl, rfl⟩
        · have ga : a' - 1 < (D.d1.toList).length := by omega
          have ea : True → Int.toNat ((a' : Int) - 1) = a' - 1 := fun _ => by omega
          have b1 := item_compare_walk (D.d1.toList)[a' - 1] (D.d1.toList)[D.pivot]
          have y1 := getA ga
          have y2 := getA gp
          cases t : ltI (D.d1.toList)[a' - 1] (D.d1.toList)[D.pivot] with
          | true =>
            have u := ltT t
            have h87 : (decide (a' > 0) && !ltI D.pi.1[a' - 1]! D.pi.1[D.pivot]!) = false := by rw [hcur, y1, y2, t]; simp
            have hleft := hleft hp2 h87
            have hright := hright hp2 h87
            by_cases h4 : mid - a' < b' - mid
            · have hL := hleft h4
              have h4S : mid + mid < a' + b' := by omega
              clear h4
              refine NW.i64 (by omega) (by omega) ?_
              refine ND.no (by omega) ?_
              refine ND.no (by omega) ?_
              refine NCall.atA (kb) ?_
              refine NW.i64 (by omega) (by omega) ?_
              rw [(el trivial)]
              refine NCall.atA (kc) ?_
              refine ND.no (by omega) ?_
              refine NP.mk (by kernel_rfl) ?_
              apply NDr.pure
              · exact ⟨rfl, rfl⟩
              apply NDr.pure
              · refine ND.yes (by omega) ?_
                exact ⟨rfl, rfl⟩
              apply NDr.pure
              · exact ⟨rfl, rfl⟩
              apply NDr.pure
              · exact ⟨rfl, rfl⟩
              apply NDr.any
              · intro H'
                exact ⟨rfl, rfl⟩
              apply NDr.pure
              · exact ⟨rfl, rfl⟩
              apply NDr.pure
              · refine NW.i64 (by omega) (by omega) ?_
                exact ⟨rfl, rfl⟩
              apply NDr.rd [0]
              · intro fH TH
                refine NP.mk (by (simp only [List.length_map, List.length_append, List.length_replicate, List.length_cons, List.length_nil, List.length_take, List.length_drop]; omega)) ?_
                rw [(ea trivial)]
                exact ⟨rfl, rfl⟩
              apply NDr.rd [0]
              · intro fH TH
                refine NG.map0N (by omega) ?_
                exact ⟨rfl, rfl⟩
              apply NDr.any
              · intro H'
                exact ⟨rfl, rfl⟩
              apply NDr.pure
              · exact ⟨rfl, rfl⟩
              apply NDr.rd [0]
              · intro fH TH
                refine NP.mk (by (simp only [List.length_map, List.length_append, List.length_replicate, List.length_cons, List.length_nil, List.length_take, List.length_drop]; omega)) ?_
                exact ⟨rfl, rfl⟩
              apply NDr.rd [0]
              · intro fH TH
                refine NG.map0N (by omega) ?_
                exact ⟨rfl, rfl⟩
              apply NDr.pure
              · refine NCall.call (b1) rfl rfl ?_
                exact ⟨rfl, rfl⟩
              apply NDr.pure
              · refine ND.yes (by omega) ?_
                exact ⟨rfl, rfl⟩
              apply NDr.pure
              · exact ⟨rfl, rfl⟩
              apply NDr.pure
              · exact ⟨rfl, rfl⟩
              refine NP.mk (by kernel_rfl) ?_
              refine NCall.atA (kd) ?_
              refine NW.i64 (by omega) (by omega) ?_
              refine NW.i64 (by omega) (by omega) ?_
              refine NP.mk (by omega) ?_
              rw [(e8 trivial)]
              refine NW.i64 (by omega) (by omega) ?_
              refine ND.yes (by omega) ?_
              refine NB.dec (fun h8 => ?_) (fun h8 => ?_)
              · have hL := hL
                rw [decide_eq_true (show mid - a' ≥ q8 by omega)] at hL
                refine NCall.atA (q1) ?_
                refine NW.i64 (by omega) (by omega) ?_
                exact Canon.mk [] rfl ⟨b' - (mid + 1), by omega, mid + 1, b', D.lim, true, apd, (pdq ltI d4 a' mid D.lim true true).toList, rfl, by omega, by omega, by omega, by omega, by simp; omega, by rw [toA]; exact bL, by rw [toA, hL], rfl, rfl⟩
              · have hL := hL
                rw [decide_eq_false (show ¬ (mid - a' ≥ q8) by omega)] at hL
                refine NCall.atA (q1) ?_
                refine NW.i64 (by omega) (by omega) ?_
                exact Canon.mk [] rfl ⟨b' - (mid + 1), by omega, mid + 1, b', D.lim, false, apd, (pdq ltI d4 a' mid D.lim true true).toList, rfl, by omega, by omega, by omega, by omega, by simp; omega, by rw [toA]; exact bL, by rw [toA, hL], rfl, rfl⟩
            · rw [show ((mid + 1 : Nat) : Int) = (mid : Int) + 1 by omega] at q2
              have hR := hright h4
              have h4S : ¬ mid + mid < a' + b' := by omega
              clear h4
              refine NW.i64 (by omega) (by omega) ?_
              refine ND.no (by omega) ?_
              refine ND.no (by omega) ?_
              refine NCall.atA (kb) ?_
              refine NW.i64 (by omega) (by omega) ?_
              rw [(el trivial)]
              refine NCall.atA (kc) ?_
              refine ND.no (by omega) ?_
              refine NP.mk (by kernel_rfl) ?_
              apply NDr.pure
              · exact ⟨rfl, rfl⟩
              apply NDr.pure
              · refine ND.yes (by omega) ?_
                exact ⟨rfl, rfl⟩
              apply NDr.pure
              · exact ⟨rfl, rfl⟩
              apply NDr.pure
              · exact ⟨rfl, rfl⟩
              apply NDr.any
              · intro H'
                exact ⟨rfl, rfl⟩
              apply NDr.pure
              · exact ⟨rfl, rfl⟩
              apply NDr.pure
              · refine NW.i64 (by omega) (by omega) ?_
                exact ⟨rfl, rfl⟩
              apply NDr.rd [0]
              · intro fH TH
                refine NP.mk (by (simp only [List.length_map, List.length_append, List.length_replicate, List.length_cons, List.length_nil, List.length_take, List.length_drop]; omega)) ?_
                rw [(ea trivial)]
                exact ⟨rfl, rfl⟩
              apply NDr.rd [0]
              · intro fH TH
                refine NG.map0N (by omega) ?_
                exact ⟨rfl, rfl⟩
              apply NDr.any
              · intro H'
                exact ⟨rfl, rfl⟩
              apply NDr.pure
              · exact ⟨rfl, rfl⟩
              apply NDr.rd [0]
              · intro fH TH
                refine NP.mk (by (simp only [List.length_map, List.length_append, List.length_replicate, List.length_cons, List.length_nil, List.length_take, List.length_drop]; omega)) ?_
                exact ⟨rfl, rfl⟩
              apply NDr.rd [0]
              · intro fH TH
                refine NG.map0N (by omega) ?_
                exact ⟨rfl, rfl⟩
              apply NDr.pure
              · refine NCall.call (b1) rfl rfl ?_
                exact ⟨rfl, rfl⟩
              apply NDr.pure
              · refine ND.yes (by omega) ?_
                exact ⟨rfl, rfl⟩
              apply NDr.pure
              · exact ⟨rfl, rfl⟩
              apply NDr.pure
              · exact ⟨rfl, rfl⟩
              refine NP.mk (by kernel_rfl) ?_
              refine NCall.atA (kd) ?_
              refine NW.i64 (by omega) (by omega) ?_
              refine NW.i64 (by omega) (by omega) ?_
              refine NP.mk (by omega) ?_
              rw [(e8 trivial)]
              refine NW.i64 (by omega) (by omega) ?_
              refine ND.no (by omega) ?_
              refine NB.dec (fun h8 => ?_) (fun h8 => ?_)
              · have hR := hR
                rw [decide_eq_true (show b' - mid ≥ q8 by omega)] at hR
                refine NW.i64 (by omega) (by omega) ?_
                refine NCall.atA (q2) ?_
                exact Canon.mk [] rfl ⟨mid - a', by omega, a', mid, D.lim, true, apd, (pdq ltI d4 (mid + 1) b' D.lim true true).toList, rfl, by omega, by omega, by omega, by omega, by simp; omega, by rw [toA]; exact bR, by rw [toA, hR], rfl, rfl⟩
              · have hR := hR
                rw [decide_eq_false (show ¬ (b' - mid ≥ q8) by omega)] at hR
                refine NW.i64 (by omega) (by omega) ?_
                refine NCall.atA (q2) ?_
                exact Canon.mk [] rfl ⟨mid - a', by omega, a', mid, D.lim, false, apd, (pdq ltI d4 (mid + 1) b' D.lim true true).toList, rfl, by omega, by omega, by omega, by omega, by simp; omega, by rw [toA]; exact bR, by rw [toA, hR], rfl, rfl⟩
          | false =>
            have u := ltF t
            have h87 : (decide (a' > 0) && !ltI D.pi.1[a' - 1]! D.pi.1[D.pivot]!) = true := by rw [hcur, y1, y2, t]; simp; omega
            obtain ⟨mi, d5, hy⟩ : ∃ mi d5, partitionEqual ltI D.pi.1 a' b' D.pivot = (mi, d5) := ⟨_, _, rfl⟩
            obtain ⟨r1, r2, r3, r4, _⟩ := Go.Sort.round_eq swoI (Go.Sort.partitionEqual_holds ltI) (by omega) hpv.1 hpv.2 (by omega) B3 (by rw [hcur, y1, y2, t]) hy
            have heq := heq hp2 h87 (by rw [hy]; exact ⟨r1, r2⟩)
            rw [hy] at ke heq
            dsimp only at ke heq
            refine NW.i64 (by omega) (by omega) ?_
            refine ND.no (by omega) ?_
            refine ND.no (by omega) ?_
            refine NCall.atA (kb) ?_
            refine NW.i64 (by omega) (by omega) ?_
            rw [(el trivial)]
            refine NCall.atA (kc) ?_
            refine ND.no (by omega) ?_
            refine NP.mk (by kernel_rfl) ?_
            apply NDr.pure
            · exact ⟨rfl, rfl⟩
            apply NDr.pure
            · refine ND.yes (by omega) ?_
              exact ⟨rfl, rfl⟩
            apply NDr.pure
            · exact ⟨rfl, rfl⟩
            apply NDr.pure
            · exact ⟨rfl, rfl⟩
            apply NDr.any
            · intro H'
              exact ⟨rfl, rfl⟩
            apply NDr.pure
            · exact ⟨rfl, rfl⟩
            apply NDr.pure
            · refine NW.i64 (by omega) (by omega) ?_
              exact ⟨rfl, rfl⟩
            apply NDr.rd [0]
            · intro fH TH
              refine NP.mk (by (simp only [List.length_map, List.length_append, List.length_replicate, List.length_cons, List.length_nil, List.length_take, List.length_drop]; omega)) ?_
              rw [(ea trivial)]
              exact ⟨rfl, rfl⟩
            apply NDr.rd [0]
            · intro fH TH
              refine NG.map0N (by omega) ?_
              exact ⟨rfl, rfl⟩
            apply NDr.any
            · intro H'
              exact ⟨rfl, rfl⟩
            apply NDr.pure
            · exact ⟨rfl, rfl⟩
            apply NDr.rd [0]
            · intro fH TH
              refine NP.mk (by (simp only [List.length_map, List.length_append, List.length_replicate, List.length_cons, List.length_nil, List.length_take, List.length_drop]; omega)) ?_
              exact ⟨rfl, rfl⟩
            apply NDr.rd [0]
            · intro fH TH
              refine NG.map0N (by omega) ?_
              exact ⟨rfl, rfl⟩
            apply NDr.pure
            · refine NCall.call (b1) rfl rfl ?_
              exact ⟨rfl, rfl⟩
            apply NDr.pure
            · refine ND.no (by omega) ?_
              exact ⟨rfl, rfl⟩
            apply NDr.pure
            · exact ⟨rfl, rfl⟩
            apply NDr.pure
            · exact ⟨rfl, rfl⟩
            refine NP.mk (by kernel_rfl) ?_
            refine NCall.atA (ke) ?_
            exact Canon.mk [] rfl ⟨b' - mi, by omega, mi, b', D.lim, false, wp, d5.toList, rfl, by omega, by omega, by omega, by omega, by simp; omega, by rw [toA]; exact r4, by rw [toA, heq], rfl, rfl⟩
    | true =>
      cases wp with
      | false =>
        obtain ⟨hd1, hdl⟩ := hf2 rfl
        have hrow : D.d1.toList.map itemA = e.map itemA := by rw [hd1]
        rw [hrow] at kc kr
        subst hdl
        have epi := hno (by simp)
        have hp2 : D.pi.2 = false := by rw [epi]
        by_cases hh : D.c.2 = .decreasing
        · have hcode : hintCode D.c.2 = 2 := by rw [hh]; rfl
          obtain ⟨e2, ep, eh⟩ := hdec hh
          rw [← e2] at kr
          have epv : True → ((b' : Int) - 1) - ((D.c.1 : Int) - (a' : Int)) = (D.pivot : Int) := fun _ => by omega
          clear ep
          have hrow3 : D.pi.1.toList.map itemA = D.d2.toList.map itemA := by rw [epi]
          rw [hrow3] at kd ke
          have hcur : D.pi.1 = (D.d2.toList).toArray := by rw [epi, toA]
          have gp : D.pivot < (D.d2.toList).length := by omega
          by_cases ha0 : a' = 0
          · have dec0 : ¬ a' > 0 := by omega
            have h87 : (decide (a' > 0) && !ltI D.pi.1[a' - 1]! D.pi.1[D.pivot]!) = false := by rw [decide_eq_false dec0]; rfl
            have hleft := hleft hp2 h87
            have hright := hright hp2 h87
            by_cases h4 : mid - a' < b' - mid
            · have hL := hleft h4
              have h4S : mid + mid < a' + b' := by omega
              clear h4
              refine NW.i64 (by omega) (by omega) ?_
              refine ND.no (by omega) ?_
              refine ND.no (by omega) ?_
              refine NCall.atA (kc) ?_
              refine ND.yes (by omega) ?_
              refine NCall.atA (kr) ?_
              refine NW.i64 (by omega) (by omega) ?_
              refine NW.i64 (by omega) (by omega) ?_
              refine NW.i64 (by omega) (by omega) ?_
              rw [(epv trivial)]
              refine NP.mk (by kernel_rfl) ?_
              apply NDr.pure
              · exact ⟨rfl, rfl⟩
              apply NDr.pure
              · refine ND.no (by omega) ?_
                exact ⟨rfl, rfl⟩
              apply NDr.pure
              · exact ⟨rfl, rfl⟩
              apply NDr.pure
              · exact ⟨rfl, rfl⟩
              refine NP.mk (by kernel_rfl) ?_
              refine NCall.atA (kd) ?_
              refine NW.i64 (by omega) (by omega) ?_
              refine NW.i64 (by omega) (by omega) ?_
              refine NP.mk (by omega) ?_
              rw [(e8 trivial)]
              refine NW.i64 (by omega) (by omega) ?_
              refine ND.yes (by omega) ?_
              refine NB.dec (fun h8 => ?_) (fun h8 => ?_)
              · have hL := hL
                rw [decide_eq_true (show mid - a' ≥ q8 by omega)] at hL
                refine NCall.atA (q1) ?_
                refine NW.i64 (by omega) (by omega) ?_
                exact Canon.mk [] rfl ⟨b' - (mid + 1), by omega, mid + 1, b', D.lim, true, apd, (pdq ltI d4 a' mid D.lim true true).toList, rfl, by omega, by omega, by omega, by omega, by simp; omega, by rw [toA]; exact bL, by rw [toA, hL], rfl, rfl⟩
              · have hL := hL
                rw [decide_eq_false (show ¬ (mid - a' ≥ q8) by omega)] at hL
                refine NCall.atA (q1) ?_
                refine NW.i64 (by omega) (by omega) ?_
                exact Canon.mk [] rfl ⟨b' - (mid + 1), by omega, mid + 1, b', D.lim, false, apd, (pdq ltI d4 a' mid D.lim true true).toList, rfl, by omega, by omega, by omega, by omega, by simp; omega, by rw [toA]; exact bL, by rw [toA, hL], rfl, rfl⟩
            · rw [show ((mid + 1 : Nat) : Int) = (mid : Int) + 1 by omega] at q2
              have hR := hright h4
              have h4S : ¬ mid + mid < a' + b' := by omega
              clear h4
              refine NW.i64 (by omega) (by omega) ?_
              refine ND.no (by omega) ?_
              refine ND.no (by omega) ?_
              refine NCall.atA (kc) ?_
              refine ND.yes (by omega) ?_
              refine NCall.atA (kr) ?_
              refine NW.i64 (by omega) (by omega) ?_
              refine NW.i64 (by omega) (by omega) ?_
              refine NW.i64 (by omega) (by omega) ?_
              rw [(epv trivial)]
              refine NP.mk (by kernel_rfl) ?_
              apply NDr.pure
              · exact ⟨rfl, rfl⟩
              apply NDr.pure
              · refine ND.no (by omega) ?_
                exact ⟨rfl, rfl⟩
              apply NDr.pure
              · exact ⟨rfl, rfl⟩
              apply NDr.pure
              · exact ⟨rfl, rfl⟩
              refine NP.mk (by kernel_rfl) ?_
              refine NCall.atA (kd) ?_
              refine NW.i64 (by omega) (by omega) ?_
              refine NW.i64 (by omega) (by omega) ?_
              refine NP.mk (by omega) ?_
              rw [(e8 trivial)]
              refine NW.i64 (by omega) (by omega) ?_
              refine ND.no (by omega) ?_
              refine NB.dec (fun h8 => ?_) (fun h8 => ?_)
              · have hR := hR
                rw [decide_eq_true (show b' - mid ≥ q8 by omega)] at hR
                refine NW.i64 (by omega) (by omega) ?_
                refine NCall.atA (q2) ?_
                exact Canon.mk [] rfl ⟨mid - a', by omega, a', mid, D.lim, true, apd, (pdq ltI d4 (mid + 1) b' D.lim true true).toList, rfl, by omega, by omega, by omega, by omega, by simp; omega, by rw [toA]; exact bR, by rw [toA, hR], rfl, rfl⟩
              · have hR := hR
                rw [decide_eq_false (show ¬ (b' - mid ≥ q8) by omega)] at hR
                refine NW.i64 (by omega) (by omega) ?_
                refine NCall.atA (q2) ?_
                exact Canon.mk [] rfl ⟨mid - a', by omega, a', mid, D.lim, false, apd, (pdq ltI d4 (mid + 1) b' D.lim true true).toList, rfl, by omega, by omega, by omega, by omega, by simp; omega, by rw [toA]; exact bR, by rw [toA, hR], rfl, rfl⟩
          · have ga : a' - 1 < (D.d2.toList).length := by omega
            have ea : True → Int.toNat ((a' : Int) - 1) = a' - 1 := fun _ => by omega
            have b1 := item_compare_walk (D.d2.toList)[a' - 1] (D.d2.toList)[D.pivot]
            have y1 := getA ga
            have y2 := getA gp
            cases t : ltI (D.d2.toList)[a' - 1] (D.d2.toList)[D.pivot] with
            | true =>
              have u := ltT t
              have h87 : (decide (a' > 0) && !ltI D.pi.1[a' - 1]! D.pi.1[D.pivot]!) = false := by rw [hcur, y1, y2, t]; simp
              have hleft := hleft hp2 h87
              have hright := hright hp2 h87
              by_cases h4 : mid - a' < b' - mid
              · have hL := hleft h4
                have h4S : mid + mid < a' + b' := by omega
                clear h4
                refine NW.i64 (by omega) (by omega) ?_
                refine ND.no (by omega) ?_
                refine ND.no (by omega) ?_
                refine NCall.atA (kc) ?_
                refine ND.yes (by omega) ?_
                refine NCall.atA (kr) ?_
                refine NW.i64 (by omega) (by omega) ?_
                refine NW.i64 (by omega) (by omega) ?_
                refine NW.i64 (by omega) (by omega) ?_
                rw [(epv trivial)]
                refine NP.mk (by kernel_rfl) ?_
                apply NDr.pure
                · exact ⟨rfl, rfl⟩
                apply NDr.pure
                · refine ND.yes (by omega) ?_
                  exact ⟨rfl, rfl⟩
                apply NDr.pure
                · exact ⟨rfl, rfl⟩
                apply NDr.pure
                · exact ⟨rfl, rfl⟩
                apply NDr.any
                · intro H'
                  exact ⟨rfl, rfl⟩
                apply NDr.pure
                · exact ⟨rfl, rfl⟩
                apply NDr.pure
                · refine NW.i64 (by omega) (by omega) ?_
                  exact ⟨rfl, rfl⟩
                apply NDr.rd [0]
                · intro fH TH
                  refine NP.mk (by (simp only [List.length_map, List.length_append, List.length_replicate, List.length_cons, List.length_nil, List.length_take, List.length_drop]; omega)) ?_
                  rw [(ea trivial)]
                  exact ⟨rfl, rfl⟩
                apply NDr.rd [0]
                · intro fH TH
                  refine NG.map0N (by omega) ?_
                  exact ⟨rfl, rfl⟩
                apply NDr.any
                · intro H'
                  exact ⟨rfl, rfl⟩
                apply NDr.pure
                · exact ⟨rfl, rfl⟩
                apply NDr.rd [0]
                · intro fH TH
                  refine NP.mk (by (simp only [List.length_map, List.length_append, List.length_replicate, List.length_cons, List.length_nil, List.length_take, List.length_drop]; omega)) ?_
                  exact ⟨rfl, rfl⟩
                apply NDr.rd [0]
                · intro fH TH
                  refine NG.map0N (by omega) ?_
                  exact ⟨rfl, rfl⟩
                apply NDr.pure
                · refine NCall.call (b1) rfl rfl ?_
                  exact ⟨rfl, rfl⟩
                apply NDr.pure
                · refine ND.yes (by omega) ?_
                  exact ⟨rfl, rfl⟩
                apply NDr.pure
                · exact ⟨rfl, rfl⟩
                apply NDr.pure
                · exact ⟨rfl, rfl⟩
                refine NP.mk (by kernel_rfl) ?_
                refine NCall.atA (kd) ?_
                refine NW.i64 (by omega) (by omega) ?_
                refine NW.i64 (by omega) (by omega) ?_
                refine NP.mk (by omega) ?_
                rw [(e8 trivial)]
                refine NW.i64 (by omega) (by omega) ?_
                refine ND.yes (by omega) ?_
                refine NB.dec (fun h8 => ?_) (fun h8 => ?_)
                · have hL := hL
                  rw [decide_eq_true (show mid - a' ≥ q8 by omega)] at hL
                  refine NCall.atA (q1) ?_
                  refine NW.i64 (by omega) (by omega) ?_
                  exact Canon.mk [] rfl ⟨b' - (mid + 1), by omega, mid + 1, b', D.lim, true, apd, (pdq ltI d4 a' mid D.lim true true).toList, rfl, by omega, by omega, by omega, by omega, by simp; omega, by rw [toA]; exact bL, by rw [toA, hL], rfl, rfl⟩
                · have hL := hL
                  rw [decide_eq_false (show ¬ (mid - a' ≥ q8) by omega)] at hL
                  refine NCall.atA (q1) ?_
                  refine NW.i64 (by omega) (by omega) ?_
                  exact Canon.mk [] rfl ⟨b' - (mid + 1), by omega, mid + 1, b', D.lim, false, apd, (pdq ltI d4 a' mid D.lim true true).toList, rfl, by omega, by omega, by omega, by omega, by simp; omega, by rw [toA]; exact bL, by rw [toA, hL], rfl, rfl⟩
              · rw [show ((mid + 1 : Nat) : Int) = (mid : Int) + 1 by omega] at q2
                have hR := hright h4
                have h4S : ¬ mid + mid < a' + b' := by omega
                clear h4
                refine NW.i64 (by omega) (by omega) ?_
                refine ND.no (by omega) ?_
                refine ND.no (by omega) ?_
                refine NCall.atA (kc) ?_
                refine ND.yes (by omega) ?_
                refine NCall.atA (kr) ?_
                refine NW.i64 (by omega) (by omega) ?_
                refine NW.i64 (by omega) (by omega) ?_
                refine NW.i64 (by omega) (by omega) ?_
                rw [(epv trivial)]
                refine NP.mk (by kernel_rfl) ?_
                apply NDr.pure
                · exact ⟨rfl, rfl⟩
                apply NDr.pure
                · refine ND.yes (by omega) ?_
                  exact ⟨rfl, rfl⟩
                apply NDr.pure
                · exact ⟨rfl, rfl⟩
                apply NDr.pure
                · exact ⟨rfl, rfl⟩
                apply NDr.any
                · intro H'
                  exact ⟨rfl, rfl⟩
                apply NDr.pure
                · exact ⟨rfl, rfl⟩
                apply NDr.pure
                · refine NW.i64 (by omega) (by omega) ?_
                  exact ⟨rfl, rfl⟩
                apply NDr.rd [0]
                · intro fH TH
                  refine NP.mk (by (simp only [List.length_map, List.length_append, List.length_replicate, List.length_cons, List.length_nil, List.length_take, List.length_drop]; omega)) ?_
                  rw [(ea trivial)]
                  exact ⟨rfl, rfl⟩
                apply NDr.rd [0]
                · intro fH TH
                  refine NG.map0N (by omega) ?_
                  exact ⟨rfl, rfl⟩
                apply NDr.any
                · intro H'
                  exact ⟨rfl, rfl⟩
                apply NDr.pure
                · exact ⟨rfl, rfl⟩
                apply NDr.rd [0]
                · intro fH TH
                  refine NP.mk (by (simp only [List.length_map, List.length_append, List.length_replicate, List.length_cons, List.length_nil, List.length_take, List.length_drop]; omega)) ?_
                  exact ⟨rfl, rfl⟩
                apply NDr.rd [0]
                · intro fH TH
                  refine NG.map0N (by omega) ?_
                  exact ⟨rfl, rfl⟩
                apply NDr.pure
                · refine NCall.call (b1) rfl rfl ?_
                  exact ⟨rfl, rfl⟩
                apply NDr.pure
                · refine ND.yes (by omega) ?_
                  exact ⟨rfl, rfl⟩
                apply NDr.pure
                · exact ⟨rfl, rfl⟩
                apply NDr.pure
                · exact ⟨rfl, rfl⟩
                refine NP.mk (by kernel_rfl) ?_
                refine NCall.atA (kd) ?_
                refine NW.i64 (by omega) (by omega) ?_
                refine NW.i64 (by omega) (by omega) ?_
                refine NP.mk (by omega) ?_
                rw [(e8 trivial)]
                refine NW.i64 (by omega) (by omega) ?_
                refine ND.no (by omega) ?_
                refine NB.dec (fun h8 => ?_) (fun h8 => ?_)
                · have hR := hR
                  rw [decide_eq_true (show b' - mid ≥ q8 by omega)] at hR
                  refine NW.i64 (by omega) (by omega) ?_
                  refine NCall.atA (q2) ?_
                  exact Canon.mk [] rfl ⟨mid - a', by omega, a', mid, D.lim, true, apd, (pdq ltI d4 (mid + 1) b' D.lim true true).toList, rfl, by omega, by omega, by omega, by omega, by simp; omega, by rw [toA]; exact bR, by rw [toA, hR], rfl, rfl⟩
                · have hR := hR
                  rw [decide_eq_false (show ¬ (b' - mid ≥ q8) by omega)] at hR
                  refine NW.i64 (by omega) (by omega) ?_
                  refine NCall.atA (q2) ?_
                  exact Canon.mk [] rfl ⟨mid - a', by omega, a', mid, D.lim, false, apd, (pdq ltI d4 (mid + 1) b' D.lim true true).toList, rfl, by omega, by omega, by omega, by omega, by simp; omega, by rw [toA]; exact bR, by rw [toA, hR], rfl, rfl⟩
            | false =>
              have u := ltF t
              have h87 : (decide (a' > 0) && !ltI D.pi.1[a' - 1]! D.pi.1[D.pivot]!) = true := by rw [hcur, y1, y2, t]; simp; omega
              obtain ⟨mi, d5, hy⟩ : ∃ mi d5, partitionEqual ltI D.pi.1 a' b' D.pivot = (mi, d5) := ⟨_, _, rfl⟩
              obtain ⟨r1, r2, r3, r4, _⟩ := Go.Sort.round_eq swoI (Go.Sort.partitionEqual_holds ltI) (by omega) hpv.1 hpv.2 (by omega) B3 (by rw [hcur, y1, y2, t]) hy
              have heq := heq hp2 h87 (by rw [hy]; exact ⟨r1, r2⟩)
              rw [hy] at ke heq
              dsimp only at ke heq
              refine NW.i64 (by omega) (by omega) ?_
              refine ND.no (by omega) ?_
              refine ND.no (by omega) ?_
              refine NCall.atA (kc) ?_
              refine ND.yes (by omega) ?_
              refine NCall.atA (kr) ?_
              refine NW.i64 (by omega) (by omega) ?_
              refine NW.i64 (by omega) (by omega) ?_
              refine NW.i64 (by omega) (by omega) ?_
              rw [(epv trivial)]
              refine NP.mk (by kernel_rfl) ?_
              apply NDr.pure
              · exact ⟨rfl, rfl⟩
              apply NDr.pure
              · refine ND.yes (by omega) ?_
                exact ⟨rfl, rfl⟩
              apply NDr.pure
              · exact ⟨rfl, rfl⟩
              apply NDr.pure
              · exact ⟨rfl, rfl⟩
              apply NDr.any
              · intro H'
                exact ⟨rfl, rfl⟩
              apply NDr.pure
              · exact ⟨rfl, rfl⟩
              apply NDr.pure
              · refine NW.i64 (by omega) (by omega) ?_
                exact ⟨rfl, rfl⟩
              apply NDr.rd [0]
              · intro fH TH
                refine NP.mk (by (simp only [List.length_map, List.length_append, List.length_replicate, List.length_cons, List.length_nil, List.length_take, List.length_drop]; omega)) ?_
                rw [(ea trivial)]
                exact ⟨rfl, rfl⟩
              apply NDr.rd [0]
              · intro fH TH
                refine NG.map0N (by omega) ?_
                exact ⟨rfl, rfl⟩
              apply NDr.any
              · intro H'
                exact ⟨rfl, rfl⟩
              apply NDr.pure
              · exact ⟨rfl, rfl⟩
              apply NDr.rd [0]
              · intro fH TH
                refine NP.mk (by (simp only [List.length_map, List.length_append, List.length_replicate, List.length_cons, List.length_nil, List.length_take, List.length_drop]; omega)) ?_
                exact ⟨rfl, rfl⟩
              apply NDr.rd [0]
              · intro fH TH
                refine NG.map0N (by omega) ?_
                exact ⟨rfl, rfl⟩
              apply NDr.pure
              · refine NCall.call (b1) rfl rfl ?_
                exact ⟨rfl, rfl⟩
              apply NDr.pure
              · refine ND.no (by omega) ?_
                exact ⟨rfl, rfl⟩
              apply NDr.pure
              · exact ⟨rfl, rfl⟩
              apply NDr.pure
              · exact ⟨rfl, rfl⟩
              refine NP.mk (by kernel_rfl) ?_
              refine NCall.atA (ke) ?_
              exact Canon.mk [] rfl ⟨b' - mi, by omega, mi, b', D.lim, true, false, d5.toList, rfl, by omega, by omega, by omega, by omega, by simp; omega, by rw [toA]; exact r4, by rw [toA, heq], rfl, rfl⟩
        · have hcode : ¬ hintCode D.c.2 = 2 := by cases h : D.c.2 with | decreasing => exact absurd h hh | increasing => simp [hintCode] | unknown => simp [hintCode]
          obtain ⟨e2, ep, eh⟩ := hnot hh
          rw [← ep] at kc
          have hrow3 : D.pi.1.toList.map itemA = e.map itemA := by rw [epi, e2, hd1]
          rw [hrow3] at kd ke
          have hcur : D.pi.1 = (e).toArray := by rw [epi, e2, hd1]
          have gp : D.pivot < (e).length := by omega
          by_cases ha0 : a' = 0
          · have dec0 : ¬ a' > 0 := by omega
            have h87 : (decide (a' > 0) && !ltI D.pi.1[a' - 1]! D.pi.1[D.pivot]!) = false := by rw [decide_eq_false dec0]; rfl
            have hleft := hleft hp2 h87
            have hright := hright hp2 h87
            by_cases h4 : mid - a' < b' - mid
            · have hL := hleft h4
              have h4S : mid + mid < a' + b' := by omega
              clear h4
              refine NW.i64 (by omega) (by omega) ?_
              refine ND.no (by omega) ?_
              refine ND.no (by omega) ?_
              refine NCall.atA (kc) ?_
              refine ND.no (by omega) ?_
              refine NP.mk (by kernel_rfl) ?_
              apply NDr.pure
              · exact ⟨rfl, rfl⟩
              apply NDr.pure
              · refine ND.no (by omega) ?_
                exact ⟨rfl, rfl⟩
              apply NDr.pure
              · exact ⟨rfl, rfl⟩
              apply NDr.pure
              · exact ⟨rfl, rfl⟩
              refine NP.mk (by kernel_rfl) ?_
              refine NCall.atA (kd) ?_
              refine NW.i64 (by omega) (by omega) ?_
              refine NW.i64 (by omega) (by omega) ?_
              refine NP.mk (by omega) ?_
              rw [(e8 trivial)]
              refine NW.i64 (by omega) (by omega) ?_
              refine ND.yes (by omega) ?_
              refine NB.dec (fun h8 => ?_) (fun h8 => ?_)
              · have hL := hL
                rw [decide_eq_true (show mid - a' ≥ q8 by omega)] at hL
                refine NCall.atA (q1) ?_
                refine NW.i64 (by omega) (by omega) ?_
                exact Canon.mk [] rfl ⟨b' - (mid + 1), by omega, mid + 1, b', D.lim, true, apd, (pdq ltI d4 a' mid D.lim true true).toList, rfl, by omega, by omega, by omega, by omega, by simp; omega, by rw [toA]; exact bL, by rw [toA, hL], rfl, rfl⟩
              · have hL := hL
                rw [decide_eq_false (show ¬ (mid - a' ≥ q8) by omega)] at hL
                refine NCall.atA (q1) ?_
                refine NW.i64 (by omega) (by omega) ?_
                exact Canon.mk [] rfl ⟨b' - (mid + 1), by omega, mid + 1, b', D.lim, false, apd, (pdq ltI d4 a' mid D.lim true true).toList, rfl, by omega, by omega, by omega, by omega, by simp; omega, by rw [toA]; exact bL, by rw [toA, hL], rfl, rfl⟩
            · rw [show ((mid + 1 : Nat) : Int) = (mid : Int) + 1 by omega] at q2
              have hR := hright h4
              have h4S : ¬ mid + mid < a' + b' := by omega
              clear h4
              refine NW.i64 (by omega) (by omega) ?_
              refine ND.no (by omega) ?_
              refine ND.no (by omega) ?_
              refine NCall.atA (kc) ?_
              refine ND.no (by omega) ?_
              refine NP.mk (by kernel_rfl) ?_
              apply NDr.pure
              · exact ⟨rfl, rfl⟩
              apply NDr.pure
              · refine ND.no (by omega) ?_
                exact ⟨rfl, rfl⟩
              apply NDr.pure
              · exact ⟨rfl, rfl⟩
              apply NDr.pure
              · exact ⟨rfl, rfl⟩
              refine NP.mk (by kernel_rfl) ?_
              refine NCall.atA (kd) ?_
              refine NW.i64 (by omega) (by omega) ?_
              refine NW.i64 (by omega) (by omega) ?_
              refine NP.mk (by omega) ?_
              rw [(e8 trivial)]
              refine NW.i64 (by omega) (by omega) ?_
              refine ND.no (by omega) ?_
              refine NB.dec (fun h8 => ?_) (fun h8 => ?_)
              · have hR := hR
                rw [decide_eq_true (show b' - mid ≥ q8 by omega)] at hR
                refine NW.i64 (by omega) (by omega) ?_
                refine NCall.atA (q2) ?_
                exact Canon.mk [] rfl ⟨mid - a', by omega, a', mid, D.lim, true, apd, (pdq ltI d4 (mid + 1) b' D.lim true true).toList, rfl, by omega, by omega, by omega, by omega, by simp; omega, by rw [toA]; exact bR, by rw [toA, hR], rfl, rfl⟩
              · have hR := hR
                rw [decide_eq_false (show ¬ (b' - mid ≥ q8) by omega)] at hR
                refine NW.i64 (by omega) (by omega) ?_
                refine NCall.atA (q2) ?_
                exact Canon.mk [] rfl ⟨mid - a', by omega, a', mid, D.lim, false, apd, (pdq ltI d4 (mid + 1) b' D.lim true true).toList, rfl, by omega, by omega, by omega, by omega, by simp; omega, by rw [toA]; exact bR, by rw [toA, hR], rfl, rfl⟩
          · have ga : a' - 1 < (e).length := by omega
            have ea : True → Int.toNat ((a' : Int) - 1) = a' - 1 := fun _ => by omega
            have b1 := item_compare_walk (e)[a' - 1] (e)[D.pivot]
            have y1 := getA ga
            have y2 := getA gp
            cases t : ltI (e)[a' - 1] (e)[D.pivot] with
            | true =>
              have u := ltT t
              have h87 : (decide (a' > 0) && !ltI D.pi.1[a' - 1]! D.pi.1[D.pivot]!) = false := by rw [hcur, y1, y2, t]; simp
              have hleft := hleft hp2 h87
              have hright := hright hp2 h87
              by_cases h4 : mid - a' < b' - mid
              · have hL := hleft h4
                have h4S : mid + mid < a' + b' := by omega
                clear h4
                refine NW.i64 (by omega) (by omega) ?_
                refine ND.no (by omega) ?_
                refine ND.no (by omega) ?_
                refine NCall.atA (kc) ?_
                refine ND.no (by omega) ?_
                refine NP.mk (by kernel_rfl) ?_
                apply NDr.pure
                · exact ⟨rfl, rfl⟩
                apply NDr.pure
                · refine ND.yes (by omega) ?_
                  exact ⟨rfl, rfl⟩
                apply NDr.pure
                · exact ⟨rfl, rfl⟩
                apply NDr.pure
                · exact ⟨rfl, rfl⟩
                apply NDr.any
                · intro H'
                  exact ⟨rfl, rfl⟩
                apply NDr.pure
                · exact ⟨rfl, rfl⟩
                apply NDr.pure
                · refine NW.i64 (by omega) (by omega) ?_
                  exact ⟨rfl, rfl⟩
                apply NDr.rd [0]
                · intro fH TH
                  refine NP.mk (by (simp only [List.length_map, List.length_append, List.length_replicate, List.length_cons, List.length_nil, List.length_take, List.length_drop]; omega)) ?_
                  rw [(ea trivial)]
                  exact ⟨rfl, rfl⟩
                apply NDr.rd [0]
                · intro fH TH
                  refine NG.map0N (by omega) ?_
                  exact ⟨rfl, rfl⟩
                apply NDr.any
                · intro H'
                  exact ⟨rfl, rfl⟩
                apply NDr.pure
                · exact ⟨rfl, rfl⟩
                apply NDr.rd [0]
                · intro fH TH
                  refine NP.mk (by (simp only [List.length_map, List.length_append, List.length_replicate, List.length_cons, List.length_nil, List.length_take, List.length_drop]; omega)) ?_
                  exact ⟨rfl, rfl⟩
                apply NDr.rd [0]
                · intro fH TH
                  refine NG.map0N (by omega) ?_
                  exact ⟨rfl, rfl⟩
                apply NDr.pure
                · refine NCall.call (b1) rfl rfl ?_
                  exact ⟨rfl, rfl⟩
                apply NDr.pure
                · refine ND.yes (by omega) ?_
                  exact ⟨rfl, rfl⟩
                apply NDr.pure
                · exact ⟨rfl, rfl⟩
                apply NDr.pure
                · exact ⟨rfl, rfl⟩
                refine NP.mk (by kernel_rfl) ?_
                refine NCall.atA (kd) ?_
                refine NW.i64 (by omega) (by omega) ?_
                refine NW.i64 (by omega) (by omega) ?_
                refine NP.mk (by omega) ?_
                rw [(e8 trivial)]
                refine NW.i64 (by omega) (by omega) ?_
                refine ND.yes (by omega) ?_
                refine NB.dec (fun h8 => ?_) (fun h8 => ?_)
                · have hL := hL
                  rw [decide_eq_true (show mid - a' ≥ q8 by omega)] at hL
                  refine NCall.atA (q1) ?_
                  refine NW.i64 (by omega) (by omega) ?_
                  exact Canon.mk [] rfl ⟨b' - (mid + 1), by omega, mid + 1, b', D.lim, true, apd, (pdq ltI d4 a' mid D.lim true true).toList, rfl, by omega, by omega, by omega, by omega, by simp; omega, by rw [toA]; exact bL, by rw [toA, hL], rfl, rfl⟩
                · have hL := hL
                  rw [decide_eq_false (show ¬ (mid - a' ≥ q8) by omega)] at hL
                  refine NCall.atA (q1) ?_
                  refine NW.i64 (by omega) (by omega) ?_
                  exact Canon.mk [] rfl ⟨b' - (mid + 1), by omega, mid + 1, b', D.lim, false, apd, (pdq ltI d4 a' mid D.lim true true).toList, rfl, by omega, by omega, by omega, by omega, by simp; omega, by rw [toA]; exact bL, by rw [toA, hL], rfl, rfl⟩
              · rw [show ((mid + 1 : Nat) : Int) = (mid : Int) + 1 by omega] at q2
                have hR := hright h4
                have h4S : ¬ mid + mid < a' + b' := by omega
                clear h4
                refine NW.i64 (by omega) (by omega) ?_
                refine ND.no (by omega) ?_
                refine ND.no (by omega) ?_
                refine NCall.atA (kc) ?_
                refine ND.no (by omega) ?_
                refine NP.mk (by kernel_rfl) ?_
                apply NDr.pure
                · exact ⟨rfl, rfl⟩
                apply NDr.pure
                · refine ND.yes (by omega) ?_
                  exact ⟨rfl, rfl⟩
                apply NDr.pure
                · exact ⟨rfl, rfl⟩
                apply NDr.pure
                · exact ⟨rfl, rfl⟩
                apply NDr.any
                · intro H'
                  exact ⟨rfl, rfl⟩
                apply NDr.pure
                · exact ⟨rfl, rfl⟩
                apply NDr.pure
                · refine NW.i64 (by omega) (by omega) ?_
                  exact ⟨rfl, rfl⟩
                apply NDr.rd [0]
                · intro fH TH
                  refine NP.mk (by (simp only [List.length_map, List.length_append, List.length_replicate, List.length_cons, List.length_nil, List.length_take, List.length_drop]; omega)) ?_
                  rw [(ea trivial)]
                  exact ⟨rfl, rfl⟩
                apply NDr.rd [0]
                · intro fH TH
                  refine NG.map0N (by omega) ?_
                  exact ⟨rfl, rfl⟩
                apply NDr.any
                · intro H'
                  exact ⟨rfl, rfl⟩
                apply NDr.pure
                · exact ⟨rfl, rfl⟩
                apply NDr.rd [0]
                · intro fH TH
                  refine NP.mk (by (simp only [List.length_map, List.length_append, List.length_replicate, List.length_cons, List.length_nil, List.length_take, List.length_drop]; omega)) ?_
                  exact ⟨rfl, rfl⟩
                apply NDr.rd [0]
                · intro fH TH
                  refine NG.map0N (by omega) ?_
                  exact ⟨rfl, rfl⟩
                apply NDr.pure
                · refine NCall.call (b1) rfl rfl ?_
                  exact ⟨rfl, rfl⟩
                apply NDr.pure
                · refine ND.yes (by omega) ?_
                  exact ⟨rfl, rfl⟩
                apply NDr.pure
                · exact ⟨rfl, rfl⟩
                apply NDr.pure
                · exact ⟨rfl, rfl⟩
                refine NP.mk (by kernel_rfl) ?_
                refine NCall.atA (kd) ?_
                refine NW.i64 (by omega) (by omega) ?_
                refine NW.i64 (by omega) (by omega) ?_
                refine NP.mk (by omega) ?_
                rw [(e8 trivial)]
                refine NW.i64 (by omega) (by omega) ?_
                refine ND.no (by omega) ?_
                refine NB.dec (fun h8 => ?_) (fun h8 => ?_)
                · have hR := hR
                  rw [decide_eq_true (show b' - mid ≥ q8 by omega)] at hR
                  refine NW.i64 (by omega) (by omega) ?_
                  refine NCall.atA (q2) ?_
                  exact Canon.mk [] rfl ⟨mid - a', by omega, a', mid, D.lim, true, apd, (pdq ltI d4 (mid + 1) b' D.lim true true).toList, rfl, by omega, by omega, by omega, by omega, by simp; omega, by rw [toA]; exact bR, by rw [toA, hR], rfl, rfl⟩
                · have hR := hR
                  rw [decide_eq_false (show ¬ (b' - mid ≥ q8) by omega)] at hR
                  refine NW.i64 (by omega) (by omega) ?_
                  refine NCall.atA (q2) ?_
                  exact Canon.mk [] rfl ⟨mid - a', by omega, a', mid, D.lim, false, apd, (pdq ltI d4 (mid + 1) b' D.lim true true).toList, rfl, by omega, by omega, by omega, by omega, by simp; omega, by rw [toA]; exact bR, by rw [toA, hR], rfl, rfl⟩
            | false =>
              have u := ltF t
              have h87 : (decide (a' > 0) && !ltI D.pi.1[a' - 1]! D.pi.1[D.pivot]!) = true := by rw [hcur, y1, y2, t]; simp; omega
              obtain ⟨mi, d5, hy⟩ : ∃ mi d5, partitionEqual ltI D.pi.1 a' b' D.pivot = (mi, d5) := ⟨_, _, rfl⟩
              obtain ⟨r1, r2, r3, r4, _⟩ := Go.Sort.round_eq swoI (Go.Sort.partitionEqual_holds ltI) (by omega) hpv.1 hpv.2 (by omega) B3 (by rw [hcur, y1, y2, t]) hy
              have heq := heq hp2 h87 (by rw [hy]; exact ⟨r1, r2⟩)
              rw [hy] at ke heq
              dsimp only at ke heq
              refine NW.i64 (by omega) (by omega) ?_
              refine ND.no (by omega) ?_
              refine ND.no (by omega) ?_
              refine NCall.atA (kc) ?_
              refine ND.no (by omega) ?_
              refine NP.mk (by kernel_rfl) ?_
              apply NDr.pure
              · exact ⟨rfl, rfl⟩
              apply NDr.pure
              · refine ND.yes (by omega) ?_
                exact ⟨rfl, rfl⟩
              apply NDr.pure
              · exact ⟨rfl, rfl⟩
              apply NDr.pure
              · exact ⟨rfl, rfl⟩
              apply NDr.any
              · intro H'
                exact ⟨rfl, rfl⟩
              apply NDr.pure
              · exact ⟨rfl, rfl⟩
              apply NDr.pure
              · refine NW.i64 (by omega) (by omega) ?_
                exact ⟨rfl, rfl⟩
              apply NDr.rd [0]
              · intro fH TH
                refine NP.mk (by (simp only [List.length_map, List.length_append, List.length_replicate, List.length_cons, List.length_nil, List.length_take, List.length_drop]; omega)) ?_
                rw [(ea trivial)]
                exact ⟨rfl, rfl⟩
              apply NDr.rd [0]
              · intro fH TH
                refine NG.map0N (by omega) ?_
                exact ⟨rfl, rfl⟩
              apply NDr.any
              · intro H'
                exact ⟨rfl, rfl⟩
              apply NDr.pure
              · exact ⟨rfl, rfl⟩
              apply NDr.rd [0]
              · intro fH TH
                refine NP.mk (by (simp only [List.length_map, List.length_append, List.length_replicate, List.length_cons, List.length_nil, List.length_take, List.length_drop]; omega)) ?_
                exact ⟨rfl, rfl⟩
              apply NDr.rd [0]
              · intro fH TH
                refine NG.map0N (by omega) ?_
                exact ⟨rfl, rfl⟩
              apply NDr.pure
              · refine NCall.call (b1) rfl rfl ?_
                exact ⟨rfl, rfl⟩
              apply NDr.pure
              · refine ND.no (by omega) ?_
                exact ⟨rfl, rfl⟩
              apply NDr.pure
              · exact ⟨rfl, rfl⟩
              apply NDr.pure
              · exact ⟨rfl, rfl⟩
              refine NP.mk (by kernel_rfl) ?_
              refine NCall.atA (ke) ?_
              exact Canon.mk [] rfl ⟨b' - mi, by omega, mi, b', D.lim, true, false, d5.toList, rfl, by omega, by omega, by omega, by omega, by simp; omega, by rw [toA]; exact r4, by rw [toA, heq], rfl, rfl⟩
      | true =>
        obtain ⟨hd1, hdl⟩ := hf2 rfl
        have hrow : D.d1.toList.map itemA = e.map itemA := by rw [hd1]
        rw [hrow] at kc kr
        subst hdl
        cases hh : D.c.2 with
        | decreasing =>
          rw [hh] at kc
          rw [show hintCode .decreasing = 2 from rfl] at kc
          obtain ⟨e2, ep, eh⟩ := hdec hh
          rw [← e2] at kr
          have epv : True → ((b' : Int) - 1) - ((D.c.1 : Int) - (a' : Int)) = (D.pivot : Int) := fun _ => by omega
          clear ep
          have epi := hyes (by rw [eh]; rfl)
          rw [← epi] at kp
          cases hp2 : D.pi.2 with
          | true =>
            rw [hp2] at kp
            rw [hdone hp2]
            refine NW.i64 (by omega) (by omega) ?_
            refine ND.no (by omega) ?_
            refine ND.no (by omega) ?_
            refine NCall.atA (kc) ?_
            refine ND.yes (by omega) ?_
            refine NCall.atA (kr) ?_
            refine NW.i64 (by omega) (by omega) ?_
            refine NW.i64 (by omega) (by omega) ?_
            refine NW.i64 (by omega) (by omega) ?_
            rw [(epv trivial)]
            refine ND.yes (by omega) ?_
            refine NCall.atA (kp) ?_
            exact NRet.mk [] rfl ⟨.refl _, rfl⟩
          | false =>
            rw [hp2] at kp
            have hcur : D.pi.1 = (D.pi.1.toList).toArray := (toA _).symm
            have gp : D.pivot < (D.pi.1.toList).length := by omega
            by_cases ha0 : a' = 0
            · have dec0 : ¬ a' > 0 := by omega
              have h87 : (decide (a' > 0) && !ltI D.pi.1[a' - 1]! D.pi.1[D.pivot]!) = false := by rw [decide_eq_false dec0]; rfl
              have hleft := hleft hp2 h87
              have hright := hright hp2 h87
              by_cases h4 : mid - a' < b' - mid
              · have hL := hleft h4
                have h4S : mid + mid < a' + b' := by omega
                clear h4
                refine NW.i64 (by omega) (by omega) ?_
                refine ND.no (by omega) ?_
                refine ND.no (by omega) ?_
                refine NCall.atA (kc) ?_
                refine ND.yes (by omega) ?_
                refine NCall.atA (kr) ?_
                refine NW.i64 (by omega) (by omega) ?_
                refine NW.i64 (by omega) (by omega) ?_
                refine NW.i64 (by omega) (by omega) ?_
                rw [(epv trivial)]
                refine ND.yes (by omega) ?_
                refine NCall.atA (kp) ?_
                refine NP.mk (by kernel_rfl) ?_
                apply NDr.pure
                · exact ⟨rfl, rfl⟩
                apply NDr.pure
                · refine ND.no (by omega) ?_
                  exact ⟨rfl, rfl⟩
                apply NDr.pure
                · exact ⟨rfl, rfl⟩
                apply NDr.pure
                · exact ⟨rfl, rfl⟩
                refine NP.mk (by kernel_rfl) ?_
                refine NCall.atA (kd) ?_
                refine NW.i64 (by omega) (by omega) ?_
                refine NW.i64 (by omega) (by omega) ?_
                refine NP.mk (by omega) ?_
                rw [(e8 trivial)]
                refine NW.i64 (by omega) (by omega) ?_
                refine ND.yes (by omega) ?_
                refine NB.dec (fun h8 => ?_) (fun h8 => ?_)
                · have hL := hL
                  rw [decide_eq_true (show mid - a' ≥ q8 by omega)] at hL
                  refine NCall.atA (q1) ?_
                  refine NW.i64 (by omega) (by omega) ?_
                  exact Canon.mk [] rfl ⟨b' - (mid + 1), by omega, mid + 1, b', D.lim, true, apd, (pdq ltI d4 a' mid D.lim true true).toList, rfl, by omega, by omega, by omega, by omega, by simp; omega, by rw [toA]; exact bL, by rw [toA, hL], rfl, rfl⟩
                · have hL := hL
                  rw [decide_eq_false (show ¬ (mid - a' ≥ q8) by omega)] at hL
                  refine NCall.atA (q1) ?_
                  refine NW.i64 (by omega) (by omega) ?_
                  exact Canon.mk [] rfl ⟨b' - (mid + 1), by omega, mid + 1, b', D.lim, false, apd, (pdq ltI d4 a' mid D.lim true true).toList, rfl, by omega, by omega, by omega, by omega, by simp; omega, by rw [toA]; exact bL, by rw [toA, hL], rfl, rfl⟩
              · rw [show ((mid + 1 : Nat) : Int) = (mid : Int) + 1 by omega] at q2
                have hR := hright h4
                have h4S : ¬ mid + mid < a' + b' := by omega
                clear h4
                refine NW.i64 (by omega) (by omega) ?_
                refine ND.no (by omega) ?_
                refine ND.no (by omega) ?_
                refine NCall.atA (kc) ?_
                refine ND.yes (by omega) ?_
                refine NCall.atA (kr) ?_
                refine NW.i64 (by omega) (by omega) ?_
                refine NW.i64 (by omega) (by omega) ?_
                refine NW.i64 (by omega) (by omega) ?_
                rw [(epv trivial)]
                refine ND.yes (by omega) ?_
                refine NCall.atA (kp) ?_
                refine NP.mk (by kernel_rfl) ?_
                apply NDr.pure
                · exact ⟨rfl, rfl⟩
                apply NDr.pure
                · refine ND.no (by omega) ?_
                  exact ⟨rfl, rfl⟩
                apply NDr.pure
                · exact ⟨rfl, rfl⟩
                apply NDr.pure
                · exact ⟨rfl, rfl⟩
                refine NP.mk (by kernel_rfl) ?_
                refine NCall.atA (kd) ?_
                refine NW.i64 (by omega) (by omega) ?_
                refine NW.i64 (by omega) (by omega) ?_
                refine NP.mk (by omega) ?_
                rw [(e8 trivial)]
                refine NW.i64 (by omega) (by omega) ?_
                refine ND.no (by omega) ?_
                refine NB.dec (fun h8 => ?_) (fun h8 => ?_)
                · have hR := hR
                  rw [decide_eq_true (show b' - mid ≥ q8 by omega)] at hR
                  refine NW.i64 (by omega) (by omega) ?_
                  refine NCall.atA (q2) ?_
                  exact Canon.mk [] rfl ⟨mid - a', by omega, a', mid, D.lim, true, apd, (pdq ltI d4 (mid + 1) b' D.lim true true).toList, rfl, by omega, by omega, by omega, by omega, by simp; omega, by rw [toA]; exact bR, by rw [toA, hR], rfl, rfl⟩
                · have hR := hR
                  rw [decide_eq_false (show ¬ (b' - mid ≥ q8) by omega)] at hR
                  refine NW.i64 (by omega) (by omega) ?_
                  refine NCall.atA (q2) ?_
                  exact Canon.mk [] rfl ⟨mid - a', by omega, a', mid, D.lim, false, apd, (pdq ltI d4 (mid + 1) b' D.lim true true).toList, rfl, by omega, by omega, by omega, by omega, by simp; omega, by rw [toA]; exact bR, by rw [toA, hR], rfl, rfl⟩
            · have ga : a' - 1 < (D.pi.1.toList).length := by omega
              have ea : True → Int.toNat ((a' : Int) - 1) = a' - 1 := fun _ => by omega
              have b1 := item_compare_walk (D.pi.1.toList)[a' - 1] (D.pi.1.toList)[D.pivot]
              have y1 := getA ga
              have y2 := getA gp
              cases t : ltI (D.pi.1.toList)[a' - 1] (D.pi.1.toList)[D.pivot] with
              | true =>
                have u := ltT t
                have h87 : (decide (a' > 0) && !ltI D.pi.1[a' - 1]! D.pi.1[D.pivot]!) = false := by rw [hcur, y1, y2, t]; simp
                have hleft := hleft hp2 h87
                have hright := hright hp2 h87
                by_cases h4 : mid - a' < b' - mid
                · have hL := hleft h4
                  have h4S : mid + mid < a' + b' := by omega
                  clear h4
                  refine NW.i64 (by omega) (by omega) ?_
                  refine ND.no (by omega) ?_
                  refine ND.no (by omega) ?_
                  refine NCall.atA (kc) ?_
                  refine ND.yes (by omega) ?_
                  refine NCall.atA (kr) ?_
                  refine NW.i64 (by omega) (by omega) ?_
                  refine NW.i64 (by omega) (by omega) ?_
                  refine NW.i64 (by omega) (by omega) ?_
                  rw [(epv trivial)]
                  refine ND.yes (by omega) ?_
                  refine NCall.atA (kp) ?_
                  refine NP.mk (by kernel_rfl) ?_
                  apply NDr.pure
                  · exact ⟨rfl, rfl⟩
                  apply NDr.pure
                  · refine ND.yes (by omega) ?_
                    exact ⟨rfl, rfl⟩
                  apply NDr.pure
                  · exact ⟨rfl, rfl⟩
                  apply NDr.pure
                  · exact ⟨rfl, rfl⟩
                  apply NDr.any
                  · intro H'
                    exact ⟨rfl, rfl⟩
                  apply NDr.pure
                  · exact ⟨rfl, rfl⟩
                  apply NDr.pure
                  · refine NW.i64 (by omega) (by omega) ?_
                    exact ⟨rfl, rfl⟩
                  apply NDr.rd [0]
                  · intro fH TH
                    refine NP.mk (by (simp only [List.length_map, List.length_append, List.length_replicate, List.length_cons, List.length_nil, List.length_take, List.length_drop]; omega)) ?_
                    rw [(ea trivial)]
                    exact ⟨rfl, rfl⟩
                  apply NDr.rd [0]
                  · intro fH TH
                    refine NG.map0N (by omega) ?_
                    exact ⟨rfl, rfl⟩
                  apply NDr.any
                  · intro H'
                    exact ⟨rfl, rfl⟩
                  apply NDr.pure
                  · exact ⟨rfl, rfl⟩
                  apply NDr.rd [0]
                  · intro fH TH
                    refine NP.mk (by (simp only [List.length_map, List.length_append, List.length_replicate, List.length_cons, List.length_nil, List.length_take, List.length_drop]; omega)) ?_
                    exact ⟨rfl, rfl⟩
                  apply NDr.rd [0]
                  · intro fH TH
                    refine NG.map0N (by omega) ?_
                    exact ⟨rfl, rfl⟩
                  apply NDr.pure
                  · refine NCall.call (b1) rfl rfl ?_
                    exact ⟨rfl, rfl⟩
                  apply NDr.pure
                  · refine ND.yes (by omega) ?_
                    exact ⟨rfl, rfl⟩
                  apply NDr.pure
                  · exact ⟨rfl, rfl⟩
                  apply NDr.pure
                  · exact ⟨rfl, rfl⟩
                  refine NP.mk (by kernel_rfl) ?_
                  refine NCall.atA (kd) ?_
                  refine NW.i64 (by omega) (by omega) ?_
                  refine NW.i64 (by omega) (by omega) ?_
                  refine NP.mk (by omega) ?_
                  rw [(e8 trivial)]
                  refine NW.i64 (by omega) (by omega) ?_
                  refine ND.yes (by omega) ?_
                  refine NB.dec (fun h8 => ?_) (fun h8 => ?_)
                  · have hL := hL
                    rw [decide_eq_true (show mid - a' ≥ q8 by omega)] at hL
                    refine NCall.atA (q1) ?_
                    refine NW.i64 (by omega) (by omega) ?_
                    exact Canon.mk [] rfl ⟨b' - (mid + 1), by omega, mid + 1, b', D.lim, true, apd, (pdq ltI d4 a' mid D.lim true true).toList, rfl, by omega, by omega, by omega, by omega, by simp; omega, by rw [toA]; exact bL, by rw [toA, hL], rfl, rfl⟩
                  · have hL := hL
                    rw [decide_eq_false (show ¬ (mid - a' ≥ q8) by omega)] at hL
                    refine NCall.atA (q1) ?_
                    refine NW.i64 (by omega) (by omega) ?_
                    exact Canon.mk [] rfl ⟨b' - (mid + 1), by omega, mid + 1, b', D.lim, false, apd, (pdq ltI d4 a' mid D.lim true true).toList, rfl, by omega, by omega, by omega, by omega, by simp; omega, by rw [toA]; exact bL, by rw [toA, hL], rfl, rfl⟩
                · rw [show ((mid + 1 : Nat) : Int) = (mid : Int) + 1 by omega] at q2
                  have hR := hright h4
                  have h4S : ¬ mid + mid < a' + b' := by omega
                  clear h4
                  refine NW.i64 (by omega) (by omega) ?_
                  refine ND.no (by omega) ?_
                  refine ND.no (by omega) ?_
                  refine NCall.atA (kc) ?_
                  refine ND.yes (by omega) ?_
                  refine NCall.atA (kr) ?_
                  refine NW.i64 (by omega) (by omega) ?_
                  refine NW.i64 (by omega) (by omega) ?_
                  refine NW.i64 (by omega) (by omega) ?_
                  rw [(epv trivial)]
                  refine ND.yes (by omega) ?_
                  refine NCall.atA (kp) ?_
                  refine NP.mk (by kernel_rfl) ?_
                  apply NDr.pure
                  · exact ⟨rfl, rfl⟩
                  apply NDr.pure
                  · refine ND.yes (by omega) ?_
                    exact ⟨rfl, rfl⟩
                  apply NDr.pure
                  · exact ⟨rfl, rfl⟩
                  apply NDr.pure
                  · exact ⟨rfl, rfl⟩
                  apply NDr.any
                  · intro H'
                    exact ⟨rfl, rfl⟩
                  apply NDr.pure
                  · exact ⟨rfl, rfl⟩
                  apply NDr.pure
                  · refine NW.i64 (by omega) (by omega) ?_
                    exact ⟨rfl, rfl⟩
                  apply NDr.rd [0]
                  · intro fH TH
                    refine NP.mk (by (simp only [List.length_map, List.length_append, List.length_replicate, List.length_cons, List.length_nil, List.length_take, List.length_drop]; omega)) ?_
                    rw [(ea trivial)]
                    exact ⟨rfl, rfl⟩
                  apply NDr.rd [0]
                  · intro fH TH
                    refine NG.map0N (by omega) ?_
                    exact ⟨rfl, rfl⟩
                  apply NDr.any
                  · intro H'
                    exact ⟨rfl, rfl⟩
                  apply NDr.pure
                  · exact ⟨rfl, rfl⟩
                  apply NDr.rd [0]
                  · intro fH TH
                    refine NP.mk (by (simp only [List.length_map, List.length_append, List.length_replicate, List.length_cons, List.length_nil, List.length_take, List.length_drop]; omega)) ?_
                    exact ⟨rfl, rfl⟩
                  apply NDr.rd [0]
                  · intro fH TH
                    refine NG.map0N (by omega) ?_
                    exact ⟨rfl, rfl⟩
                  apply NDr.pure
                  · refine NCall.call (b1) rfl rfl ?_
                    exact ⟨rfl, rfl⟩
                  apply NDr.pure
                  · refine ND.yes (by omega) ?_
                    exact ⟨rfl, rfl⟩
                  apply NDr.pure
                  · exact ⟨rfl, rfl⟩
                  apply NDr.pure
                  · exact ⟨rfl, rfl⟩
                  refine NP.mk (by kernel_rfl) ?_
                  refine NCall.atA (kd) ?_
                  refine NW.i64 (by omega) (by omega) ?_
                  refine NW.i64 (by omega) (by omega) ?_
                  refine NP.mk (by omega) ?_
                  rw [(e8 trivial)]
                  refine NW.i64 (by omega) (by omega) ?_
                  refine ND.no (by omega) ?_
                  refine NB.dec (fun h8 => ?_) (fun h8 => ?_)
                  · have hR := hR
                    rw [decide_eq_true (show b' - mid ≥ q8 by omega)] at hR
                    refine NW.i64 (by omega) (by omega) ?_
                    refine NCall.atA (q2) ?_
                    exact Canon.mk [] rfl ⟨mid - a', by omega, a', mid, D.lim, true, apd, (pdq ltI d4 (mid + 1) b' D.lim true true).toList, rfl, by omega, by omega, by omega, by omega, by simp; omega, by rw [toA]; exact bR, by rw [toA, hR], rfl, rfl⟩
                  · have hR := hR
                    rw [decide_eq_false (show ¬ (b' - mid ≥ q8) by omega)] at hR
                    refine NW.i64 (by omega) (by omega) ?_
                    refine NCall.atA (q2) ?_
                    exact Canon.mk [] rfl ⟨mid - a', by omega, a', mid, D.lim, false, apd, (pdq ltI d4 (mid + 1) b' D.lim true true).toList, rfl, by omega, by omega, by omega, by omega, by simp; omega, by rw [toA]; exact bR, by rw [toA, hR], rfl, rfl⟩
              | false =>
                have u := ltF t
                have h87 : (decide (a' > 0) && !ltI D.pi.1[a' - 1]! D.pi.1[D.pivot]!) = true := by rw [hcur, y1, y2, t]; simp; omega
                obtain ⟨mi, d5, hy⟩ : ∃ mi d5, partitionEqual ltI D.pi.1 a' b' D.pivot = (mi, d5) := ⟨_, _, rfl⟩
                obtain ⟨r1, r2, r3, r4, _⟩ := Go.Sort.round_eq swoI (Go.Sort.partitionEqual_holds ltI) (by omega) hpv.1 hpv.2 (by omega) B3 (by rw [hcur, y1, y2, t]) hy
                have heq := heq hp2 h87 (by rw [hy]; exact ⟨r1, r2⟩)
                rw [hy] at ke heq
                dsimp only at ke heq
                refine NW.i64 (by omega) (by omega) ?_
                refine ND.no (by omega) ?_
                refine ND.no (by omega) ?_
                refine NCall.atA (kc) ?_
                refine ND.yes (by omega) ?_
                refine NCall.atA (kr) ?_
                refine NW.i64 (by omega) (by omega) ?_
                refine NW.i64 (by omega) (by omega) ?_
                refine NW.i64 (by omega) (by omega) ?_
                rw [(epv trivial)]
                refine ND.yes (by omega) ?_
                refine NCall.atA (kp) ?_
                refine NP.mk (by kernel_rfl) ?_
                apply NDr.pure
                · exact ⟨rfl, rfl⟩
                apply NDr.pure
                · refine ND.yes (by omega) ?_
                  exact ⟨rfl, rfl⟩
                apply NDr.pure
                · exact ⟨rfl, rfl⟩
                apply NDr.pure
                · exact ⟨rfl, rfl⟩
                apply NDr.any
                · intro H'
                  exact ⟨rfl, rfl⟩
                apply NDr.pure
                · exact ⟨rfl, rfl⟩
                apply NDr.pure
                · refine NW.i64 (by omega) (by omega) ?_
                  exact ⟨rfl, rfl⟩
                apply NDr.rd [0]
                · intro fH TH
                  refine NP.mk (by (simp only [List.length_map, List.length_append, List.length_replicate, List.length_cons, List.length_nil, List.length_take, List.length_drop]; omega)) ?_
                  rw [(ea trivial)]
                  exact ⟨rfl, rfl⟩
                apply NDr.rd [0]
                · intro fH TH
                  refine NG.map0N (by omega) ?_
                  exact ⟨rfl, rfl⟩
                apply NDr.any
                · intro H'
                  exact ⟨rfl, rfl⟩
                apply NDr.pure
                · exact ⟨rfl, rfl⟩
                apply NDr.rd [0]
                · intro fH TH
                  refine NP.mk (by (simp only [List.length_map, List.length_append, List.length_replicate, List.length_cons, List.length_nil, List.length_take, List.length_drop]; omega)) ?_
                  exact ⟨rfl, rfl⟩
                apply NDr.rd [0]
                · intro fH TH
                  refine NG.map0N (by omega) ?_
                  exact ⟨rfl, rfl⟩
                apply NDr.pure
                · refine NCall.call (b1) rfl rfl ?_
                  exact ⟨rfl, rfl⟩
                apply NDr.pure
                · refine ND.no (by omega) ?_
                  exact ⟨rfl, rfl⟩
                apply NDr.pure
                · exact ⟨rfl, rfl⟩
                apply NDr.pure
                · exact ⟨rfl, rfl⟩
                refine NP.mk (by kernel_rfl) ?_
                refine NCall.atA (ke) ?_
                exact Canon.mk [] rfl ⟨b' - mi, by omega, mi, b', D.lim, true, true, d5.toList, rfl, by omega, by omega, by omega, by omega, by simp; omega, by rw [toA]; exact r4, by rw [toA, heq], rfl, rfl⟩
        | increasing =>
          rw [hh] at kc
          rw [show hintCode .increasing = 1 from rfl] at kc
          obtain ⟨e2, ep, eh⟩ := hnot (by rw [hh]; simp)
          rw [hh] at eh
          rw [← ep] at kc
          have epi := hyes (by rw [eh]; rfl)
          rw [← epi] at kp
          have hrow2 : D.d2.toList.map itemA = e.map itemA := by rw [e2, hd1]
          rw [hrow2] at kp
          cases hp2 : D.pi.2 with
          | true =>
            rw [hp2] at kp
            rw [hdone hp2]
            refine NW.i64 (by omega) (by omega) ?_
            refine ND.no (by omega) ?_
            refine ND.no (by omega) ?_
            refine NCall.atA (kc) ?_
            refine ND.no (by omega) ?_
            refine ND.yes (by omega) ?_
            refine NCall.atA (kp) ?_
            exact NRet.mk [] rfl ⟨.refl _, rfl⟩
          | false =>
            rw [hp2] at kp
            have hcur : D.pi.1 = (D.pi.1.toList).toArray := (toA _).symm
            have gp : D.pivot < (D.pi.1.toList).length := by omega
            by_cases ha0 : a' = 0
            · have dec0 : ¬ a' > 0 := by omega
              have h87 : (decide (a' > 0) && !ltI D.pi.1[a' - 1]! D.pi.1[D.pivot]!) = false := by rw [decide_eq_false dec0]; rfl
              have hleft := hleft hp2 h87
              have hright := hright hp2 h87
              by_cases h4 : mid - a' < b' - mid
              · have hL := hleft h4
                have h4S : mid + mid < a' + b' := by omega
                clear h4
                refine NW.i64 (by omega) (by omega) ?_
                refine ND.no (by omega) ?_
                refine ND.no (by omega) ?_
                refine NCall.atA (kc) ?_
                refine ND.no (by omega) ?_
                refine ND.yes (by omega) ?_
                refine NCall.atA (kp) ?_
                refine NP.mk (by kernel_rfl) ?_
                apply NDr.pure
                · exact ⟨rfl, rfl⟩
                apply NDr.pure
                · refine ND.no (by omega) ?_
                  exact ⟨rfl, rfl⟩
                apply NDr.pure
                · exact ⟨rfl, rfl⟩
                apply NDr.pure
                · exact ⟨rfl, rfl⟩
                refine NP.mk (by kernel_rfl) ?_
                refine NCall.atA (kd) ?_
                refine NW.i64 (by omega) (by omega) ?_
                refine NW.i64 (by omega) (by omega) ?_
                refine NP.mk (by omega) ?_
                rw [(e8 trivial)]
                refine NW.i64 (by omega) (by omega) ?_
                refine ND.yes (by omega) ?_
                refine NB.dec (fun h8 => ?_) (fun h8 => ?_)
                · have hL := hL
                  rw [decide_eq_true (show mid - a' ≥ q8 by omega)] at hL
                  refine NCall.atA (q1) ?_
                  refine NW.i64 (by omega) (by omega) ?_
                  exact Canon.mk [] rfl ⟨b' - (mid + 1), by omega, mid + 1, b', D.lim, true, apd, (pdq ltI d4 a' mid D.lim true true).toList, rfl, by omega, by omega, by omega, by omega, by simp; omega, by rw [toA]; exact bL, by rw [toA, hL], rfl, rfl⟩
                · have hL := hL
                  rw [decide_eq_false (show ¬ (mid - a' ≥ q8) by omega)] at hL
                  refine NCall.atA (q1) ?_
                  refine NW.i64 (by omega) (by omega) ?_
                  exact Canon.mk [] rfl ⟨b' - (mid + 1), by omega, mid + 1, b', D.lim, false, apd, (pdq ltI d4 a' mid D.lim true true).toList, rfl, by omega, by omega, by omega, by omega, by simp; omega, by rw [toA]; exact bL, by rw [toA, hL], rfl, rfl⟩
              · rw [show ((mid + 1 : Nat) : Int) = (mid : Int) + 1 by omega] at q2
                have hR := hright h4
                have h4S : ¬ mid + mid < a' + b' := by omega
                clear h4
                refine NW.i64 (by omega) (by omega) ?_
                refine ND.no (by omega) ?_
                refine ND.no (by omega) ?_
                refine NCall.atA (kc) ?_
                refine ND.no (by omega) ?_
                refine ND.yes (by omega) ?_
                refine NCall.atA (kp) ?_
                refine NP.mk (by kernel_rfl) ?_
                apply NDr.pure
                · exact ⟨rfl, rfl⟩
                apply NDr.pure
                · refine ND.no (by omega) ?_
                  exact ⟨rfl, rfl⟩
                apply NDr.pure
                · exact ⟨rfl, rfl⟩
                apply NDr.pure
                · exact ⟨rfl, rfl⟩
                refine NP.mk (by kernel_rfl) ?_
                refine NCall.atA (kd) ?_
                refine NW.i64 (by omega) (by omega) ?_
                refine NW.i64 (by omega) (by omega) ?_
                refine NP.mk (by omega) ?_
                rw [(e8 trivial)]
                refine NW.i64 (by omega) (by omega) ?_
                refine ND.no (by omega) ?_
                refine NB.dec (fun h8 => ?_) (fun h8 => ?_)
                · have hR := hR
                  rw [decide_eq_true (show b' - mid ≥ q8 by omega)] at hR
                  refine NW.i64 (by omega) (by omega) ?_
                  refine NCall.atA (q2) ?_
                  exact Canon.mk [] rfl ⟨mid - a', by omega, a', mid, D.lim, true, apd, (pdq ltI d4 (mid + 1) b' D.lim true true).toList, rfl, by omega, by omega, by omega, by omega, by simp; omega, by rw [toA]; exact bR, by rw [toA, hR], rfl, rfl⟩
                · have hR := hR
                  rw [decide_eq_false (show ¬ (b' - mid ≥ q8) by omega)] at hR
                  refine NW.i64 (by omega) (by omega) ?_
                  refine NCall.atA (q2) ?_
                  exact Canon.mk [] rfl ⟨mid - a', by omega, a', mid, D.lim, false, apd, (pdq ltI d4 (mid + 1) b' D.lim true true).toList, rfl, by omega, by omega, by omega, by omega, by simp; omega, by rw [toA]; exact bR, by rw [toA, hR], rfl, rfl⟩
            · have ga : a' - 1 < (D.pi.1.toList).length := by omega
              have ea : True → Int.toNat ((a' : Int) - 1) = a' - 1 := fun _ => by omega
              have b1 := item_compare_walk (D.pi.1.toList)[a' - 1] (D.pi.1.toList)[D.pivot]
              have y1 := getA ga
              have y2 := getA gp
              cases t : ltI (D.pi.1.toList)[a' - 1] (D.pi.1.toList)[D.pivot] with
              | true =>
                have u := ltT t
                have h87 : (decide (a' > 0) && !ltI D.pi.1[a' - 1]! D.pi.1[D.pivot]!) = false := by rw [hcur, y1, y2, t]; simp
                have hleft := hleft hp2 h87
                have hright := hright hp2 h87
                by_cases h4 : mid - a' < b' - mid
                · have hL := hleft h4
                  have h4S : mid + mid < a' + b' := by omega
                  clear h4
                  refine NW.i64 (by omega) (by omega) ?_
                  refine ND.no (by omega) ?_
                  refine ND.no (by omega) ?_
                  refine NCall.atA (kc) ?_
                  refine ND.no (by omega) ?_
                  refine ND.yes (by omega) ?_
                  refine NCall.atA (kp) ?_
                  refine NP.mk (by kernel_rfl) ?_
                  apply NDr.pure
                  · exact ⟨rfl, rfl⟩
                  apply NDr.pure
                  · refine ND.yes (by omega) ?_
                    exact ⟨rfl, rfl⟩
                  apply NDr.pure
                  · exact ⟨rfl, rfl⟩
                  apply NDr.pure
                  · exact ⟨rfl, rfl⟩
                  apply NDr.any
                  · intro H'
                    exact ⟨rfl, rfl⟩
                  apply NDr.pure
                  · exact ⟨rfl, rfl⟩
                  apply NDr.pure
                  · refine NW.i64 (by omega) (by omega) ?_
                    exact ⟨rfl, rfl⟩
                  apply NDr.rd [0]
                  · intro fH TH
                    refine NP.mk (by (simp only [List.length_map, List.length_append, List.length_replicate, List.length_cons, List.length_nil, List.length_take, List.length_drop]; omega)) ?_
                    rw [(ea trivial)]
                    exact ⟨rfl, rfl⟩
                  apply NDr.rd [0]
                  · intro fH TH
                    refine NG.map0N (by omega) ?_
                    exact ⟨rfl, rfl⟩
                  apply NDr.any
                  · intro H'
                    exact ⟨rfl, rfl⟩
                  apply NDr.pure
                  · exact ⟨rfl, rfl⟩
                  apply NDr.rd [0]
                  · intro fH TH
                    refine NP.mk (by (simp only [List.length_map, List.length_append, List.length_replicate, List.length_cons, List.length_nil, List.length_take, List.length_drop]; omega)) ?_
                    exact ⟨rfl, rfl⟩
                  apply NDr.rd [0]
                  · intro fH TH
                    refine NG.map0N (by omega) ?_
                    exact ⟨rfl, rfl⟩
                  apply NDr.pure
                  · refine NCall.call (b1) rfl rfl ?_
                    exact ⟨rfl, rfl⟩
                  apply NDr.pure
                  · refine ND.yes (by omega) ?_
                    exact ⟨rfl, rfl⟩
                  apply NDr.pure
                  · exact ⟨rfl, rfl⟩
                  apply NDr.pure
                  · exact ⟨rfl, rfl⟩
                  refine NP.mk (by kernel_rfl) ?_
                  refine NCall.atA (kd) ?_
                  refine NW.i64 (by omega) (by omega) ?_
                  refine NW.i64 (by omega) (by omega) ?_
                  refine NP.mk (by omega) ?_
                  rw [(e8 trivial)]
                  refine NW.i64 (by omega) (by omega) ?_
                  refine ND.yes (by omega) ?_
                  refine NB.dec (fun h8 => ?_) (fun h8 => ?_)
                  · have hL := hL
                    rw [decide_eq_true (show mid - a' ≥ q8 by omega)] at hL
                    refine NCall.atA (q1) ?_
                    refine NW.i64 (by omega) (by omega) ?_
                    exact Canon.mk [] rfl ⟨b' - (mid + 1), by omega, mid + 1, b', D.lim, true, apd, (pdq ltI d4 a' mid D.lim true true).toList, rfl, by omega, by omega, by omega, by omega, by simp; omega, by rw [toA]; exact bL, by rw [toA, hL], rfl, rfl⟩
                  · have hL := hL
                    rw [decide_eq_false (show ¬ (mid - a' ≥ q8) by omega)] at hL
                    refine NCall.atA (q1) ?_
                    refine NW.i64 (by omega) (by omega) ?_
                    exact Canon.mk [] rfl ⟨b' - (mid + 1), by omega, mid + 1, b', D.lim, false, apd, (pdq ltI d4 a' mid D.lim true true).toList, rfl, by omega, by omega, by omega, by omega, by simp; omega, by rw [toA]; exact bL, by rw [toA, hL], rfl, rfl⟩
                · rw [show ((mid + 1 : Nat) : Int) = (mid : Int) + 1 by omega] at q2
                  have hR := hright h4
                  have h4S : ¬ mid + mid < a' + b' := by omega
                  clear h4
                  refine NW.i64 (by omega) (by omega) ?_
                  refine ND.no (by omega) ?_
                  refine ND.no (by omega) ?_
                  refine NCall.atA (kc) ?_
                  refine ND.no (by omega) ?_
                  refine ND.yes (by omega) ?_
                  refine NCall.atA (kp) ?_
                  refine NP.mk (by kernel_rfl) ?_
                  apply NDr.pure
                  · exact ⟨rfl, rfl⟩
                  apply NDr.pure
                  · refine ND.yes (by omega) ?_
                    exact ⟨rfl, rfl⟩
                  apply NDr.pure
                  · exact ⟨rfl, rfl⟩
                  apply NDr.pure
                  · exact ⟨rfl, rfl⟩
                  apply NDr.any
                  · intro H'
                    exact ⟨rfl, rfl⟩
                  apply NDr.pure
                  · exact ⟨rfl, rfl⟩
                  apply NDr.pure
                  · refine NW.i64 (by omega) (by omega) ?_
                    exact ⟨rfl, rfl⟩
                  apply NDr.rd [0]
                  · intro fH TH
                    refine NP.mk (by (simp only [List.length_map, List.length_append, List.length_replicate, List.length_cons, List.length_nil, List.length_take, List.length_drop]; omega)) ?_
                    rw [(ea trivial)]
                    exact ⟨rfl, rfl⟩
                  apply NDr.rd [0]
                  · intro fH TH
                    refine NG.map0N (by omega) ?_
                    exact ⟨rfl, rfl⟩
                  apply NDr.any
                  · intro H'
                    exact ⟨rfl, rfl⟩
                  apply NDr.pure
                  · exact ⟨rfl, rfl⟩
                  apply NDr.rd [0]
                  · intro fH TH
                    refine NP.mk (by (simp only [List.length_map, List.length_append, List.length_replicate, List.length_cons, List.length_nil, List.length_take, List.length_drop]; omega)) ?_
                    exact ⟨rfl, rfl⟩
                  apply NDr.rd [0]
                  · intro fH TH
                    refine NG.map0N (by omega) ?_
                    exact ⟨rfl, rfl⟩
                  apply NDr.pure
                  · refine NCall.call (b1) rfl rfl ?_
                    exact ⟨rfl, rfl⟩
                  apply NDr.pure
                  · refine ND.yes (by omega) ?_
                    exact ⟨rfl, rfl⟩
                  apply NDr.pure
                  · exact ⟨rfl, rfl⟩
                  apply NDr.pure
                  · exact ⟨rfl, rfl⟩
                  refine NP.mk (by kernel_rfl) ?_
                  refine NCall.atA (kd) ?_
                  refine NW.i64 (by omega) (by omega) ?_
                  refine NW.i64 (by omega) (by omega) ?_
                  refine NP.mk (by omega) ?_
                  rw [(e8 trivial)]
                  refine NW.i64 (by omega) (by omega) ?_
                  refine ND.no (by omega) ?_
                  refine NB.dec (fun h8 => ?_) (fun h8 => ?_)
                  · have hR := hR
                    rw [decide_eq_true (show b' - mid ≥ q8 by omega)] at hR
                    refine NW.i64 (by omega) (by omega) ?_
                    refine NCall.atA (q2) ?_
                    exact Canon.mk [] rfl ⟨mid - a', by omega, a', mid, D.lim, true, apd, (pdq ltI d4 (mid + 1) b' D.lim true true).toList, rfl, by omega, by omega, by omega, by omega, by simp; omega, by rw [toA]; exact bR, by rw [toA, hR], rfl, rfl⟩
                  · have hR := hR
                    rw [decide_eq_false (show ¬ (b' - mid ≥ q8) by omega)] at hR
                    refine NW.i64 (by omega) (by omega) ?_
                    refine NCall.atA (q2) ?_
                    exact Canon.mk [] rfl ⟨mid - a', by omega, a', mid, D.lim, false, apd, (pdq ltI d4 (mid + 1) b' D.lim true true).toList, rfl, by omega, by omega, by omega, by omega, by simp; omega, by rw [toA]; exact bR, by rw [toA, hR], rfl, rfl⟩
              | false =>
                have u := ltF t
                have h87 : (decide (a' > 0) && !ltI D.pi.1[a' - 1]! D.pi.1[D.pivot]!) = true := by rw [hcur, y1, y2, t]; simp; omega
                obtain ⟨mi, d5, hy⟩ : ∃ mi d5, partitionEqual ltI D.pi.1 a' b' D.pivot = (mi, d5) := ⟨_, _, rfl⟩
                obtain ⟨r1, r2, r3, r4, _⟩ := Go.Sort.round_eq swoI (Go.Sort.partitionEqual_holds ltI) (by omega) hpv.1 hpv.2 (by omega) B3 (by rw [hcur, y1, y2, t]) hy
                have heq := heq hp2 h87 (by rw [hy]; exact ⟨r1, r2⟩)
                rw [hy] at ke heq
                dsimp only at ke heq
                refine NW.i64 (by omega) (by omega) ?_
                refine ND.no (by omega) ?_
                refine ND.no (by omega) ?_
                refine NCall.atA (kc) ?_
                refine ND.no (by omega) ?_
                refine ND.yes (by omega) ?_
                refine NCall.atA (kp) ?_
                refine NP.mk (by kernel_rfl) ?_
                apply NDr.pure
                · exact ⟨rfl, rfl⟩
                apply NDr.pure
                · refine ND.yes (by omega) ?_
                  exact ⟨rfl, rfl⟩
                apply NDr.pure
                · exact ⟨rfl, rfl⟩
                apply NDr.pure
                · exact ⟨rfl, rfl⟩
                apply NDr.any
                · intro H'
                  exact ⟨rfl, rfl⟩
                apply NDr.pure
                · exact ⟨rfl, rfl⟩
                apply NDr.pure
                · refine NW.i64 (by omega) (by omega) ?_
                  exact ⟨rfl, rfl⟩
                apply NDr.rd [0]
                · intro fH TH
                  refine NP.mk (by (simp only [List.length_map, List.length_append, List.length_replicate, List.length_cons, List.length_nil, List.length_take, List.length_drop]; omega)) ?_
                  rw [(ea trivial)]
                  exact ⟨rfl, rfl⟩
                apply NDr.rd [0]
                · intro fH TH
                  refine NG.map0N (by omega) ?_
                  exact ⟨rfl, rfl⟩
                apply NDr.any
                · intro H'
                  exact ⟨rfl, rfl⟩
                apply NDr.pure
                · exact ⟨rfl, rfl⟩
                apply NDr.rd [0]
                · intro fH TH
                  refine NP.mk (by (simp only [List.length_map, List.length_append, List.length_replicate, List.length_cons, List.length_nil, List.length_take, List.length_drop]; omega)) ?_
                  exact ⟨rfl, rfl⟩
                apply NDr.rd [0]
                · intro fH TH
                  refine NG.map0N (by omega) ?_
                  exact ⟨rfl, rfl⟩
                apply NDr.pure
                · refine NCall.call (b1) rfl rfl ?_
                  exact ⟨rfl, rfl⟩
                apply NDr.pure
                · refine ND.no (by omega) ?_
                  exact ⟨rfl, rfl⟩
                apply NDr.pure
                · exact ⟨rfl, rfl⟩
                apply NDr.pure
                · exact ⟨rfl, rfl⟩
                refine NP.mk (by kernel_rfl) ?_
                refine NCall.atA (ke) ?_
                exact Canon.mk [] rfl ⟨b' - mi, by omega, mi, b', D.lim, true, true, d5.toList, rfl, by omega, by omega, by omega, by omega, by simp; omega, by rw [toA]; exact r4, by rw [toA, heq], rfl, rfl⟩
        | unknown =>
          rw [hh] at kc
          rw [show hintCode .unknown = 0 from rfl] at kc
          obtain ⟨e2, ep, eh⟩ := hnot (by rw [hh]; simp)
          rw [hh] at eh
          rw [← ep] at kc
          have epi := hno (by rw [eh]; rfl)
          have hp2 : D.pi.2 = false := by rw [epi]
          have hrow3 : D.pi.1.toList.map itemA = e.map itemA := by rw [epi, e2, hd1]
          rw [hrow3] at kd ke
          have hcur : D.pi.1 = (e).toArray := by rw [epi, e2, hd1]
          have gp : D.pivot < (e).length := by omega
          by_cases ha0 : a' = 0
          · have dec0 : ¬ a' > 0 := by omega
            have h87 : (decide (a' > 0) && !ltI D.pi.1[a' - 1]! D.pi.1[D.pivot]!) = false := by rw [decide_eq_false dec0]; rfl
            have hleft := hleft hp2 h87
            have hright := hright hp2 h87
            by_cases h4 : mid - a' < b' - mid
            · have hL := hleft h4
              have h4S : mid + mid < a' + b' := by omega
              clear h4
              refine NW.i64 (by omega) (by omega) ?_
              refine ND.no (by omega) ?_
              refine ND.no (by omega) ?_
              refine NCall.atA (kc) ?_
              refine ND.no (by omega) ?_
              refine ND.no (by omega) ?_
              refine NP.mk (by kernel_rfl) ?_
              apply NDr.pure
              · exact ⟨rfl, rfl⟩
              apply NDr.pure
              · refine ND.no (by omega) ?_
                exact ⟨rfl, rfl⟩
              apply NDr.pure
              · exact ⟨rfl, rfl⟩
              apply NDr.pure
              · exact ⟨rfl, rfl⟩
              refine NP.mk (by kernel_rfl) ?_
              refine NCall.atA (kd) ?_
              refine NW.i64 (by omega) (by omega) ?_
              refine NW.i64 (by omega) (by omega) ?_
              refine NP.mk (by omega) ?_
              rw [(e8 trivial)]
              refine NW.i64 (by omega) (by omega) ?_
              refine ND.yes (by omega) ?_
              refine NB.dec (fun h8 => ?_) (fun h8 => ?_)
              · have hL := hL
                rw [decide_eq_true (show mid - a' ≥ q8 by omega)] at hL
                refine NCall.atA (q1) ?_
                refine NW.i64 (by omega) (by omega) ?_
                exact Canon.mk [] rfl ⟨b' - (mid + 1), by omega, mid + 1, b', D.lim, true, apd, (pdq ltI d4 a' mid D.lim true true).toList, rfl, by omega, by omega, by omega, by omega, by simp; omega, by rw [toA]; exact bL, by rw [toA, hL], rfl, rfl⟩
              · have hL := hL
                rw [decide_eq_false (show ¬ (mid - a' ≥ q8) by omega)] at hL
                refine NCall.atA (q1) ?_
                refine NW.i64 (by omega) (by omega) ?_
                exact Canon.mk [] rfl ⟨b' - (mid + 1), by omega, mid + 1, b', D.lim, false, apd, (pdq ltI d4 a' mid D.lim true true).toList, rfl, by omega, by omega, by omega, by omega, by simp; omega, by rw [toA]; exact bL, by rw [toA, hL], rfl, rfl⟩
            · rw [show ((mid + 1 : Nat) : Int) = (mid : Int) + 1 by omega] at q2
              have hR := hright h4
              have h4S : ¬ mid + mid < a' + b' := by omega
              clear h4
              refine NW.i64 (by omega) (by omega) ?_
              refine ND.no (by omega) ?_
              refine ND.no (by omega) ?_
              refine NCall.atA (kc) ?_
              refine ND.no (by omega) ?_
              refine ND.no (by omega) ?_
              refine NP.mk (by kernel_rfl) ?_
              apply NDr.pure
              · exact ⟨rfl, rfl⟩
              apply NDr.pure
              · refine ND.no (by omega) ?_
                exact ⟨rfl, rfl⟩
              apply NDr.pure
              · exact ⟨rfl, rfl⟩
              apply NDr.pure
              · exact ⟨rfl, rfl⟩
              refine NP.mk (by kernel_rfl) ?_
              refine NCall.atA (kd) ?_
              refine NW.i64 (by omega) (by omega) ?_
              refine NW.i64 (by omega) (by omega) ?_
              refine NP.mk (by omega) ?_
              rw [(e8 trivial)]
              refine NW.i64 (by omega) (by omega) ?_
              refine ND.no (by omega) ?_
              refine NB.dec (fun h8 => ?_) (fun h8 => ?_)
              · have hR := hR
                rw [decide_eq_true (show b' - mid ≥ q8 by omega)] at hR
                refine NW.i64 (by omega) (by omega) ?_
                refine NCall.atA (q2) ?_
                exact Canon.mk [] rfl ⟨mid - a', by omega, a', mid, D.lim, true, apd, (pdq ltI d4 (mid + 1) b' D.lim true true).toList, rfl, by omega, by omega, by omega, by omega, by simp; omega, by rw [toA]; exact bR, by rw [toA, hR], rfl, rfl⟩
              · have hR := hR
                rw [decide_eq_false (show ¬ (b' - mid ≥ q8) by omega)] at hR
                refine NW.i64 (by omega) (by omega) ?_
                refine NCall.atA (q2) ?_
                exact Canon.mk [] rfl ⟨mid - a', by omega, a', mid, D.lim, false, apd, (pdq ltI d4 (mid + 1) b' D.lim true true).toList, rfl, by omega, by omega, by omega, by omega, by simp; omega, by rw [toA]; exact bR, by rw [toA, hR], rfl, rfl⟩
          · have ga : a' - 1 < (e).length := by omega
            have ea : True → Int.toNat ((a' : Int) - 1) = a' - 1 := fun _ => by omega
            have b1 := item_compare_walk (e)[a' - 1] (e)[D.pivot]
            have y1 := getA ga
            have y2 := getA gp
            cases t : ltI (e)[a' - 1] (e)[D.pivot] with
            | true =>
              have u := ltT t
              have h87 : (decide (a' > 0) && !ltI D.pi.1[a' - 1]! D.pi.1[D.pivot]!) = false := by rw [hcur, y1, y2, t]; simp
              have hleft := hleft hp2 h87
              have hright := hright hp2 h87
              by_cases h4 : mid - a' < b' - mid
              · have hL := hleft h4
                have h4S : mid + mid < a' + b' := by omega
                clear h4
                refine NW.i64 (by omega) (by omega) ?_
                refine ND.no (by omega) ?_
                refine ND.no (by omega) ?_
                refine NCall.atA (kc) ?_
                refine ND.no (by omega) ?_
                refine ND.no (by omega) ?_
                refine NP.mk (by kernel_rfl) ?_
                apply NDr.pure
                · exact ⟨rfl, rfl⟩
                apply NDr.pure
                · refine ND.yes (by omega) ?_
                  exact ⟨rfl, rfl⟩
                apply NDr.pure
                · exact ⟨rfl, rfl⟩
                apply NDr.pure
                · exact ⟨rfl, rfl⟩
                apply NDr.any
                · intro H'
                  exact ⟨rfl, rfl⟩
                apply NDr.pure
                · exact ⟨rfl, rfl⟩
                apply NDr.pure
                · refine NW.i64 (by omega) (by omega) ?_
                  exact ⟨rfl, rfl⟩
                apply NDr.rd [0]
                · intro fH TH
                  refine NP.mk (by (simp only [List.length_map, List.length_append, List.length_replicate, List.length_cons, List.length_nil, List.length_take, List.length_drop]; omega)) ?_
                  rw [(ea trivial)]
                  exact ⟨rfl, rfl⟩
                apply NDr.rd [0]
                · intro fH TH
                  refine NG.map0N (by omega) ?_
                  exact ⟨rfl, rfl⟩
                apply NDr.any
                · intro H'
                  exact ⟨rfl, rfl⟩
                apply NDr.pure
                · exact ⟨rfl, rfl⟩
                apply NDr.rd [0]
                · intro fH TH
                  refine NP.mk (by (simp only [List.length_map, List.length_append, List.length_replicate, List.length_cons, List.length_nil, List.length_take, List.length_drop]; omega)) ?_
                  exact ⟨rfl, rfl⟩
                apply NDr.rd [0]
                · intro fH TH
                  refine NG.map0N (by omega) ?_
                  exact ⟨rfl, rfl⟩
                apply NDr.pure
                · refine NCall.call (b1) rfl rfl ?_
                  exact ⟨rfl, rfl⟩
                apply NDr.pure
                · refine ND.yes (by omega) ?_
                  exact ⟨rfl, rfl⟩
                apply NDr.pure
                · exact ⟨rfl, rfl⟩
                apply NDr.pure
                · exact ⟨rfl, rfl⟩
                refine NP.mk (by kernel_rfl) ?_
                refine NCall.atA (kd) ?_
                refine NW.i64 (by omega) (by omega) ?_
                refine NW.i64 (by omega) (by omega) ?_
                refine NP.mk (by omega) ?_
                rw [(e8 trivial)]
                refine NW.i64 (by omega) (by omega) ?_
                refine ND.yes (by omega) ?_
                refine NB.dec (fun h8 => ?_) (fun h8 => ?_)
                · have hL := hL
                  rw [decide_eq_true (show mid - a' ≥ q8 by omega)] at hL
                  refine NCall.atA (q1) ?_
                  refine NW.i64 (by omega) (by omega) ?_
                  exact Canon.mk [] rfl ⟨b' - (mid + 1), by omega, mid + 1, b', D.lim, true, apd, (pdq ltI d4 a' mid D.lim true true).toList, rfl, by omega, by omega, by omega, by omega, by simp; omega, by rw [toA]; exact bL, by rw [toA, hL], rfl, rfl⟩
                · have hL := hL
                  rw [decide_eq_false (show ¬ (mid - a' ≥ q8) by omega)] at hL
                  refine NCall.atA (q1) ?_
                  refine NW.i64 (by omega) (by omega) ?_
                  exact Canon.mk [] rfl ⟨b' - (mid + 1), by omega, mid + 1, b', D.lim, false, apd, (pdq ltI d4 a' mid D.lim true true).toList, rfl, by omega, by omega, by omega, by omega, by simp; omega, by rw [toA]; exact bL, by rw [toA, hL], rfl, rfl⟩
              · rw [show ((mid + 1 : Nat) : Int) = (mid : Int) + 1 by omega] at q2
                have hR := hright h4
                have h4S : ¬ mid + mid < a' + b' := by omega
                clear h4
                refine NW.i64 (by omega) (by omega) ?_
                refine ND.no (by omega) ?_
                refine ND.no (by omega) ?_
                refine NCall.atA (kc) ?_
                refine ND.no (by omega) ?_
                refine ND.no (by omega) ?_
                refine NP.mk (by kernel_rfl) ?_
                apply NDr.pure
                · exact ⟨rfl, rfl⟩
                apply NDr.pure
                · refine ND.yes (by omega) ?_
                  exact ⟨rfl, rfl⟩
                apply NDr.pure
                · exact ⟨rfl, rfl⟩
                apply NDr.pure
                · exact ⟨rfl, rfl⟩
                apply NDr.any
                · intro H'
                  exact ⟨rfl, rfl⟩
                apply NDr.pure
                · exact ⟨rfl, rfl⟩
                apply NDr.pure
                · refine NW.i64 (by omega) (by omega) ?_
                  exact ⟨rfl, rfl⟩
                apply NDr.rd [0]
                · intro fH TH
                  refine NP.mk (by (simp only [List.length_map, List.length_append, List.length_replicate, List.length_cons, List.length_nil, List.length_take, List.length_drop]; omega)) ?_
                  rw [(ea trivial)]
                  exact ⟨rfl, rfl⟩
                apply NDr.rd [0]
                · intro fH TH
                  refine NG.map0N (by omega) ?_
                  exact ⟨rfl, rfl⟩
                apply NDr.any
                · intro H'
                  exact ⟨rfl, rfl⟩
                apply NDr.pure
                · exact ⟨rfl, rfl⟩
                apply NDr.rd [0]
                · intro fH TH
                  refine NP.mk (by (simp only [List.length_map, List.length_append, List.length_replicate, List.length_cons, List.length_nil, List.length_take, List.length_drop]; omega)) ?_
                  exact ⟨rfl, rfl⟩
                apply NDr.rd [0]
                · intro fH TH
                  refine NG.map0N (by omega) ?_
                  exact ⟨rfl, rfl⟩
                apply NDr.pure
                · refine NCall.call (b1) rfl rfl ?_
                  exact ⟨rfl, rfl⟩
                apply NDr.pure
                · refine ND.yes (by omega) ?_
                  exact ⟨rfl, rfl⟩
                apply NDr.pure
                · exact ⟨rfl, rfl⟩
                apply NDr.pure
                · exact ⟨rfl, rfl⟩
                refine NP.mk (by kernel_rfl) ?_
                refine NCall.atA (kd) ?_
                refine NW.i64 (by omega) (by omega) ?_
                refine NW.i64 (by omega) (by omega) ?_
                refine NP.mk (by omega) ?_
                rw [(e8 trivial)]
                refine NW.i64 (by omega) (by omega) ?_
                refine ND.no (by omega) ?_
                refine NB.dec (fun h8 => ?_) (fun h8 => ?_)
                · have hR := hR
                  rw [decide_eq_true (show b' - mid ≥ q8 by omega)] at hR
                  refine NW.i64 (by omega) (by omega) ?_
                  refine NCall.atA (q2) ?_
                  exact Canon.mk [] rfl ⟨mid - a', by omega, a', mid, D.lim, true, apd, (pdq ltI d4 (mid + 1) b' D.lim true true).toList, rfl, by omega, by omega, by omega, by omega, by simp; omega, by rw [toA]; exact bR, by rw [toA, hR], rfl, rfl⟩
                · have hR := hR
                  rw [decide_eq_false (show ¬ (b' - mid ≥ q8) by omega)] at hR
                  refine NW.i64 (by omega) (by omega) ?_
                  refine NCall.atA (q2) ?_
                  exact Canon.mk [] rfl ⟨mid - a', by omega, a', mid, D.lim, false, apd, (pdq ltI d4 (mid + 1) b' D.lim true true).toList, rfl, by omega, by omega, by omega, by omega, by simp; omega, by rw [toA]; exact bR, by rw [toA, hR], rfl, rfl⟩
            | false =>
              have u := ltF t
              have h87 : (decide (a' > 0) && !ltI D.pi.1[a' - 1]! D.pi.1[D.pivot]!) = true := by rw [hcur, y1, y2, t]; simp; omega
              obtain ⟨mi, d5, hy⟩ : ∃ mi d5, partitionEqual ltI D.pi.1 a' b' D.pivot = (mi, d5) := ⟨_, _, rfl⟩
              obtain ⟨r1, r2, r3, r4, _⟩ := Go.Sort.round_eq swoI (Go.Sort.partitionEqual_holds ltI) (by omega) hpv.1 hpv.2 (by omega) B3 (by rw [hcur, y1, y2, t]) hy
              have heq := heq hp2 h87 (by rw [hy]; exact ⟨r1, r2⟩)
              rw [hy] at ke heq
              dsimp only at ke heq
              refine NW.i64 (by omega) (by omega) ?_
              refine ND.no (by omega) ?_
              refine ND.no (by omega) ?_
              refine NCall.atA (kc) ?_
              refine ND.no (by omega) ?_
              refine ND.no (by omega) ?_
              refine NP.mk (by kernel_rfl) ?_
              apply NDr.pure
              · exact ⟨rfl, rfl⟩
              apply NDr.pure
              · refine ND.yes (by omega) ?_
                exact ⟨rfl, rfl⟩
              apply NDr.pure
              · exact ⟨rfl, rfl⟩
              apply NDr.pure
              · exact ⟨rfl, rfl⟩
              apply NDr.any
              · intro H'
                exact ⟨rfl, rfl⟩
              apply NDr.pure
              · exact ⟨rfl, rfl⟩
              apply NDr.pure
              · refine NW.i64 (by omega) (by omega) ?_
                exact ⟨rfl, rfl⟩
              apply NDr.rd [0]
              · intro fH TH
                refine NP.mk (by (simp only [List.length_map, List.length_append, List.length_replicate, List.length_cons, List.length_nil, List.length_take, List.length_drop]; omega)) ?_
                rw [(ea trivial)]
                exact ⟨rfl, rfl⟩
              apply NDr.rd [0]
              · intro fH TH
                refine NG.map0N (by omega) ?_
                exact ⟨rfl, rfl⟩
              apply NDr.any
              · intro H'
                exact ⟨rfl, rfl⟩
              apply NDr.pure
              · exact ⟨rfl, rfl⟩
              apply NDr.rd [0]
              · intro fH TH
                refine NP.mk (by (simp only [List.length_map, List.length_append, List.length_replicate, List.length_cons, List.length_nil, List.length_take, List.length_drop]; omega)) ?_
                exact ⟨rfl, rfl⟩
              apply NDr.rd [0]
              · intro fH TH
                refine NG.map0N (by omega) ?_
                exact ⟨rfl, rfl⟩
              apply NDr.pure
              · refine NCall.call (b1) rfl rfl ?_
                exact ⟨rfl, rfl⟩
              apply NDr.pure
              · refine ND.no (by omega) ?_
                exact ⟨rfl, rfl⟩
              apply NDr.pure
              · exact ⟨rfl, rfl⟩
              apply NDr.pure
              · exact ⟨rfl, rfl⟩
              refine NP.mk (by kernel_rfl) ?_
              refine NCall.atA (ke) ?_
              exact Canon.mk [] rfl ⟨b' - mi, by omega, mi, b', D.lim, true, true, d5.toList, rfl, by omega, by omega, by omega, by omega, by simp; omega, by rw [toA]; exact r4, by rw [toA, heq], rfl, rfl⟩
end Go.Bv
namespace Go.Bv
open Go Go.Proofs
def without (l : List Item) (D : List Dot) : List Item := l.filter fun x => decide (x.dot ∉ D)
def madeL (n s : Int) (e : Eff) : List Item := if e.kind = 0 then [] else [made n s e]
def rawE (n s : Int) (l : List Item) (e : Eff) : List Item := without l e.drops ++ madeL n s e
def rawL (n s : Int) (l : List Item) (es : List Eff) : List Item := es.foldl (rawE n s) l
def doE (n s : Int) (l : List Item) (e : Eff) : List Item := norm (rawE n s l e)
def doL (n s : Int) (l : List Item) (es : List Eff) : List Item := es.foldl (doE n s) l
theorem without_norm {l m : List Item} (h : norm l = norm m) (D : List Dot) : norm (without l D) = norm (without m D) := norm_filter h fun d => decide (d ∉ D)
theorem rawE_norm {n s : Int} {l m : List Item} (h : norm l = norm m) (e : Eff) : norm (rawE n s l e) = norm (rawE n s m e) := norm_app (without_norm h _) _
theorem rawL_norm {n s : Int} : ∀ (es : List Eff) {l m : List Item}, norm l = norm m → norm (rawL n s l es) = norm (rawL n s m es)
  | [], _, _, h => h
  | e :: es, _, _, h => rawL_norm es (rawE_norm h e)
theorem doL_norm {n s : Int} : ∀ (es : List Eff) (l : List Item), norm (doL n s l es) = norm (rawL n s l es)
  | [], _ => rfl
  | e :: es, l => (doL_norm es _).trans (rawL_norm es (norm_idem _))
theorem doL_raw {n s : Int} {es : List Eff} (h : es ≠ []) (l : List Item) : doL n s l es = norm (rawL n s l es) := by
  obtain ⟨es, e, rfl⟩ : ∃ es' e, es = es' ++ [e] := ⟨_, _, (List.dropLast_concat_getLast h).symm⟩
  unfold doL rawL
  rw [List.foldl_append, List.foldl_append]
  show doE n s (doL n s l es) e = norm (rawE n s (rawL n s l es) e)
  exact rawE_norm (doL_norm es l) e
theorem doL_nil (n s : Int) (l : List Item) : doL n s l [] = l := rfl
/-- An item that is made, and not taken away later. -/
def MadeBy (n s : Int) : List Eff → Item → Prop
  | [], _ => False
  | e :: es, x => (e.kind ≠ 0 ∧ x = made n s e ∧ ∀ e' ∈ es, x.dot ∉ e'.drops) ∨ MadeBy n s es x
theorem mem_without {l : List Item} {D : List Dot} {x : Item} : x ∈ without l D ↔ x ∈ l ∧ x.dot ∉ D := by
  unfold without; rw [List.mem_filter, decide_eq_true_eq]
theorem mem_madeL {n s : Int} {e : Eff} {x : Item} : x ∈ madeL n s e ↔ e.kind ≠ 0 ∧ x = made n s e := by
  unfold madeL
  split
  · rename_i h; simp [h]
  · rename_i h; simp [h]
theorem mem_rawL {n s : Int} : ∀ (es : List Eff) (l : List Item) (x : Item), x ∈ rawL n s l es ↔ (x ∈ l ∧ ∀ e ∈ es, x.dot ∉ e.drops) ∨ MadeBy n s es x
  | [], l, x => by simp [rawL, MadeBy]
  | e :: es, l, x => by
    show x ∈ rawL n s (rawE n s l e) es ↔ _
    rw [mem_rawL es, rawE, List.mem_append, mem_without, mem_madeL, MadeBy]
    simp only [List.mem_cons, forall_eq_or_imp]
    constructor
    · rintro (⟨⟨h1, h2⟩ | ⟨h1, h2⟩, h3⟩ | h)
      · exact .inl ⟨h1, h2, h3⟩
      · exact .inr (.inl ⟨h1, h2, h3⟩)
      · exact .inr (.inr h)
    · rintro (⟨h1, h2, h3⟩ | ⟨h1, h2, h3⟩ | h)
      · exact .inl ⟨.inl ⟨h1, h2⟩, h3⟩
      · exact .inl ⟨.inr ⟨h1, h2⟩, h3⟩
      · exact .inr h
theorem madeBy_ex {n s : Int} : ∀ {es : List Eff} {x : Item}, MadeBy n s es x → ∃ e ∈ es, e.kind ≠ 0 ∧ x = made n s e
  | e :: es, x, h => by
    rcases h with ⟨h1, h2, _⟩ | h
    · exact ⟨e, List.mem_cons_self .., h1, h2⟩
    · obtain ⟨e', h1, h2⟩ := madeBy_ex h
      exact ⟨e', List.mem_cons_of_mem _ h1, h2⟩
theorem made_dot (n s : Int) (e : Eff) : (made n s e).dot = ⟨n, s, e.at'⟩ := rfl
def hasI (l : List Item) (n s : Int) : Bool := l.any fun x => decide (x.dot.node = n ∧ x.dot.seq = s)
theorem has_no {l : List Item} {n s : Int} (h : hasI l n s = false) {x : Item} (hx : x ∈ l) (a : Int) : x.dot ≠ ⟨n, s, a⟩ := fun e => by
  unfold hasI at h
  rw [List.any_eq_false] at h
  exact h x hx (by rw [e]; simp)
theorem doL_len {n s : Int} : ∀ (es : List Eff) (l : List Item), (doL n s l es).length ≤ l.length + es.length
  | [], _ => Nat.le_refl _
  | e :: es, l => by
    have h := doL_len (n := n) (s := s) es (doE n s l e)
    have h1 : (doE n s l e).length ≤ l.length + 1 := by
      unfold doE norm
      refine Nat.le_trans (nubF_sub _ _).length_le ?_
      rw [(isort_perm _).length_eq]
      unfold rawE madeL without
      rw [List.length_append]
      have := List.length_filter_le (fun x : Item => decide (x.dot ∉ e.drops)) l
      split <;> simp only [List.length_nil, List.length_cons] <;> omega
    show (doL n s (doE n s l e) es).length ≤ _
    rw [List.length_cons]; omega
def underI (l : List Item) (p : List UInt8 → Bool) : List Item := l.filter fun x => p x.key
def keysI (l : List Eff) (p : List UInt8 → Bool) : List Eff := l.filter fun e => p e.key
theorem mem_under {l : List Item} {p : List UInt8 → Bool} {x : Item} : x ∈ underI l p ↔ x ∈ l ∧ p x.key = true := by
  unfold underI; rw [List.mem_filter]
/-- No two of one dot. -/
def OneDot (l : List Item) : Prop := ∀ x ∈ l, ∀ y ∈ l, x.dot = y.dot → x = y
theorem lst_one {l : List Item} (h : OneDot l) (x : Item) : Lst l x ↔ x ∈ l := ⟨fun h => h.1, fun hx => ⟨hx, fun y hy e => by rw [h y hy x hx e]; exact ILt_irrefl x⟩⟩
theorem oneDot_norm (l : List Item) : OneDot (norm l) := fun x hx y hy e => by
  rw [mem_norm] at hx hy
  rcases ILt_tri x y with k | k | k
  · exact absurd k (hy.2 x hx.1 e)
  · exact k
  · exact absurd k (hx.2 y hy.1 e.symm)
theorem oneDot_sub {l m : List Item} (h : OneDot l) (hs : ∀ x ∈ m, x ∈ l) : OneDot m := fun x hx y hy => h x (hs x hx) y (hs y hy)
theorem under_norm {l : List Item} (h : OneDot l) (p : List UInt8 → Bool) : underI (norm l) p = norm (underI l p) := by
  refine pwI_eq ((norm_pw l).sublist List.filter_sublist) (norm_pw _) fun x => ?_
  rw [mem_under, mem_norm, mem_norm, lst_one h, lst_one (oneDot_sub h fun x hx => (mem_under.1 hx).1), mem_under]
/-- The numbers of effects differ. -/
def AtsDiffer (l : List Eff) : Prop := l.Pairwise fun a b => a.at' < b.at'
theorem madeBy_one {n s : Int} : ∀ {es : List Eff}, AtsDiffer es → ∀ {x y : Item}, MadeBy n s es x → MadeBy n s es y → x.dot = y.dot → x = y
  | [], _, _, _, h, _, _ => h.elim
  | e :: es, ha, x, y, hx, hy, hd => by
    have ha' := List.pairwise_cons.1 ha
    rcases hx with ⟨_, rfl, _⟩ | hx <;> rcases hy with ⟨_, rfl, _⟩ | hy
    · rfl
    · obtain ⟨e', h1, _, rfl⟩ := madeBy_ex hy
      have := ha'.1 e' h1
      rw [made_dot, made_dot] at hd
      simp only [Dot.mk.injEq, true_and] at hd
      omega
    · obtain ⟨e', h1, _, rfl⟩ := madeBy_ex hx
      have := ha'.1 e' h1
      rw [made_dot, made_dot] at hd
      simp only [Dot.mk.injEq, true_and] at hd
      omega
    · exact madeBy_one ha'.2 hx hy hd
theorem oneDot_raw {n s : Int} {l : List Item} {es : List Eff} (hl : OneDot l) (hh : hasI l n s = false) (ha : AtsDiffer es) : OneDot (rawL n s l es) := by
  intro x hx y hy hd
  rw [mem_rawL] at hx hy
  rcases hx with ⟨hx, _⟩ | hx <;> rcases hy with ⟨hy, _⟩ | hy
  · exact hl x hx y hy hd
  · obtain ⟨e, _, _, rfl⟩ := madeBy_ex hy
    exact absurd hd (has_no hh hx _)
  · obtain ⟨e, _, _, rfl⟩ := madeBy_ex hx
    exact absurd hd.symm (has_no hh hy _)
  · exact madeBy_one ha hx hy hd
/-- Each effect takes away what stands under its own key alone, of the items and of what was made ahead of it. -/
def ownKeys (n s : Int) : List Eff → Prop
  | [] => True
  | e :: es => (∀ e' ∈ es, (⟨n, s, e.at'⟩ : Dot) ∈ e'.drops → e.key = e'.key) ∧ ownKeys n s es
theorem madeBy_under {n s : Int} {p : List UInt8 → Bool} : ∀ {es : List Eff}, ownKeys n s es → ∀ x, (MadeBy n s es x ∧ p x.key = true) ↔ MadeBy n s (keysI es p) x
  | [], _, x => by simp [MadeBy, keysI]
  | e :: es, ho, x => by
    obtain ⟨h1, h2⟩ := ho
    have ih := madeBy_under (p := p) h2 x
    unfold keysI at *
    rw [List.filter_cons]
    by_cases hp : p e.key = true
    · rw [if_pos hp, MadeBy, MadeBy, ← ih]
      constructor
      · rintro ⟨⟨g1, g2, g3⟩ | g, gp⟩
        · exact .inl ⟨g1, g2, fun e' he' => g3 e' (List.mem_filter.1 he').1⟩
        · exact .inr ⟨g, gp⟩
      · rintro (⟨g1, g2, g3⟩ | ⟨g, gp⟩)
        · refine ⟨.inl ⟨g1, g2, fun e' he' hd => ?_⟩, by rw [g2]; exact hp⟩
          rw [g2, made_dot] at hd
          exact g3 e' (List.mem_filter.2 ⟨he', by rw [← h1 e' he' hd]; exact hp⟩) (by rw [g2, made_dot]; exact hd)
        · exact ⟨.inr g, gp⟩
    · rw [if_neg hp, MadeBy, ← ih]
      constructor
      · rintro ⟨⟨g1, g2, g3⟩ | g, gp⟩
        · rw [g2] at gp; exact absurd gp hp
        · exact ⟨g, gp⟩
      · rintro ⟨g, gp⟩
        exact ⟨.inr g, gp⟩
theorem do_under {n s : Int} {l : List Item} {es : List Eff} {p : List UInt8 → Bool} (hl : norm l = l) (hh : hasI l n s = false) (ha : AtsDiffer es) (ho : ownKeys n s es)
    (hk : ∀ e ∈ es, ∀ x ∈ l, x.dot ∈ e.drops → x.key = e.key) (hne : es ≠ []) : underI (doL n s l es) p = doL n s (underI l p) (keysI es p) := by
  have h1 : OneDot l := by rw [← hl]; exact oneDot_norm l
  have hm : ∀ x, x ∈ underI (rawL n s l es) p ↔ x ∈ rawL n s (underI l p) (keysI es p) := by
    intro x
    rw [mem_under, mem_rawL, mem_rawL, mem_under, ← madeBy_under ho]
    constructor
    · rintro ⟨⟨g1, g2⟩ | g, gp⟩
      · exact .inl ⟨⟨g1, gp⟩, fun e he => g2 e (List.mem_filter.1 he).1⟩
      · exact .inr ⟨g, gp⟩
    · rintro (⟨⟨g1, gp⟩, g2⟩ | ⟨g, gp⟩)
      · refine ⟨.inl ⟨g1, fun e he hd => g2 e (List.mem_filter.2 ⟨he, ?_⟩) hd⟩, gp⟩
        rw [← hk e he x g1 hd]; exact gp
      · exact ⟨.inr g, gp⟩
  rw [doL_raw hne, under_norm (oneDot_raw h1 hh ha), norm_congr hm]
  by_cases hke : keysI es p = []
  · rw [hke, doL_nil]
    show norm (underI l p) = underI l p
    rw [← under_norm h1, hl]
  · rw [doL_raw hke]
theorem ownKeys_pw {n s : Int} : ∀ {l : List Eff}, l.Pairwise (fun a b => (⟨n, s, a.at'⟩ : Dot) ∈ b.drops → a.key = b.key) → ownKeys n s l
  | [], _ => trivial
  | e :: es, h => by
    rw [List.pairwise_cons] at h
    exact ⟨h.1, ownKeys_pw h.2⟩
theorem ats_of {n s : Int} {l : List Eff} (h : effsOk n s l = true) : AtsDiffer l := by
  unfold effsOk at h
  rw [Bool.and_eq_true] at h
  have ht : ∀ a b c : Eff, decide (a.at' < b.at') = true → decide (b.at' < c.at') = true → decide (a.at' < c.at') = true := fun a b c h1 h2 => by
    simp only [decide_eq_true_eq] at *; omega
  exact ((adj_pw ht l).1 h.2).imp fun h => of_decide_eq_true h
end Go.Bv
namespace Go.Bv
open Go Go.Proofs
theorem effsOnly_sub (l : List Eff) (z : List (List UInt8)) : (effsOnly l z).Sublist l := List.filter_sublist
end Go.Bv
namespace Go.Bv
set_option linter.unusedSimpArgs false
set_option linter.unusedVariables false
set_option maxHeartbeats 4000000
set_option maxRecDepth 20000
open Go Go.Proofs
theorem cloneI_walk (l : List Item) (hl : l.length ≤ 2 ^ 38) : ACalls Try.prog Nm.slices_Clone_api_Item_api_Item [itemsA l] [] (.own 0 0 l.length) [.row .vrow (.agg 8) (l.map itemA)] := by
  refine ACalls_of tab (dr_snd tab mixed) Nm.slices_Clone_api_Item_api_Item_h rfl (by kernel_rfl) (Nat.le_of_ble_eq_true rfl) rfl ?_
  refine NN.mk (fun h => ?_) ?_
  · have : l = [] := by simpa using h
    subst this
    exact NRet.ad [(2, .agg 8)] [0] rfl ⟨.refl _, rfl⟩
  · refine NFz.own ?_
    refine NApp.endA rfl (by simp; omega) ?_
    exact NRet.mk [1] rfl ⟨by rw [List.length_map]; exact .refl _, rfl⟩
theorem indexDot_walk (l : List Dot) (d : Dot) (hl : l.length ≤ 2 ^ 40) : ACalls Try.prog Nm.slices_Index_api_Dot_api_Dot [dotsA l, dotA d] [] (i64 (ixI (fun x => decide (d = x)) l)) [] := by
  refine ACalls_of tab (dr_snd tab mixed) Nm.slices_Index_api_Dot_api_Dot_h rfl (by kernel_rfl) (Nat.le_of_ble_eq_true rfl) rfl ?_
  skip
  refine NLoop.mk [] [0, 3, 6, 7, 8] (fun m vs H => ∃ i, i ≤ l.length ∧ m = l.length - i ∧ (∀ x ∈ l.take i, decide (d = x) = false) ∧ H = [.row .box (.agg 3) [dotA d]] ∧ vs = [dotsA l, .ptr 0 0 0, dotsA l, i64 l.length, i64 i]) rfl ?_ ?_
  · exact Canon.mk [0] rfl ⟨l.length, 0, Nat.zero_le _, rfl, by simp, rfl, by simp [dotsA, i64]⟩
  · rintro m vs H ⟨i, hi, rfl, ht, rfl, rfl⟩
    by_cases hil : i < l.length
    · obtain ⟨f1, f2⟩ := find_step hil ht
      by_cases hp : d = l[i]
      · rw [f1 (decide_eq_true hp)]
        have e1 : d.node = l[i].node := by rw [← hp]
        have e2 : d.seq = l[i].seq := by rw [← hp]
        have e3 : d.at' = l[i].at' := by rw [← hp]
        refine ND.yes (by omega) ?_
        refine NP.mk (by kernel_rfl) ?_
        apply NDr.rd [0]
        · intro fH TH
          exact ⟨rfl, rfl⟩
        apply NDr.pure
        · exact ⟨rfl, rfl⟩
        apply NDr.pure
        · exact ⟨rfl, rfl⟩
        apply NDr.pure
        · refine NP.mk (by omega) ?_
          refine NG.mapN (by omega) ?_
          exact ⟨rfl, rfl⟩
        apply NDr.pure
        · exact ⟨rfl, rfl⟩
        apply NDr.pure
        · refine ND.yes (by simp [*]) ?_
          exact ⟨rfl, rfl⟩
        refine NP.mk (by kernel_rfl) ?_
        exact NRet.mk [] rfl ⟨.refl _, rfl⟩
      · have hne : ¬ (d.node = l[i].node ∧ d.seq = l[i].seq ∧ d.at' = l[i].at') := fun h => hp (Dot.ext h.1 h.2.1 h.2.2)
        refine ND.yes (by omega) ?_
        refine NP.mk (by kernel_rfl) ?_
        apply NDr.rd [0]
        · intro fH TH
          exact ⟨rfl, rfl⟩
        apply NDr.pure
        · exact ⟨rfl, rfl⟩
        apply NDr.pure
        · exact ⟨rfl, rfl⟩
        apply NDr.pure
        · refine NP.mk (by omega) ?_
          refine NG.mapN (by omega) ?_
          exact ⟨rfl, rfl⟩
        apply NDr.pure
        · exact ⟨rfl, rfl⟩
        apply NDr.pure
        · refine ND.no (by simp [*]) ?_
          exact ⟨rfl, rfl⟩
        refine NP.mk (by kernel_rfl) ?_
        refine NW.i64 (by omega) (by omega) ?_
        exact Canon.mk [0] rfl ⟨l.length - (i + 1), by omega, i + 1, by omega, rfl, f2 (decide_eq_false hp), rfl, rfl⟩
    · have : i = l.length := by omega
      subst this
      rw [List.take_length] at ht
      rw [find_none ht]
      refine ND.no (by omega) ?_
      exact NRet.mk [] rfl ⟨.refl _, rfl⟩
theorem containsDot_walk (l : List Dot) (d : Dot) (hl : l.length ≤ 2 ^ 40) : ACalls Try.prog Nm.slices_Contains_api_Dot_api_Dot [dotsA l, dotA d] [] (.bool (decide (d ∈ l))) [] := by
  refine ACalls_of tab (dr_snd tab mixed) Nm.slices_Contains_api_Dot_api_Dot_h rfl (by kernel_rfl) (Nat.le_of_ble_eq_true rfl) rfl ?_
  have h1 := indexDot_walk l d hl
  have e : decide (d ∈ l) = decide (0 ≤ ixI (fun x => decide (d = x)) l) := by
    rw [← ixI_any]
    rw [Bool.eq_iff_iff]
    simp
  rw [e]
  by_cases h : 0 ≤ ixI (fun x => decide (d = x)) l
  · rw [decide_eq_true h]
    refine NCall.call (h1) rfl rfl ?_
    refine ND.yes (by omega) ?_
    exact NRet.mk [] rfl ⟨.refl _, rfl⟩
  · rw [decide_eq_false h]
    refine NCall.call (h1) rfl rfl ?_
    refine ND.no (by omega) ?_
    exact NRet.mk [] rfl ⟨.refl _, rfl⟩
theorem withoutF_walk (D : List Dot) (x : Item) (hD : D.length ≤ 2 ^ 40) : ACalls Try.prog Nm.item_Without_1 [itemA x, .ptr 0 0 0] [.row .box .leaf [dotsA D]] (.bool (decide (x.dot ∈ D))) [.row .box .leaf [dotsA D]] := by
  refine ACalls_of tab (dr_snd tab mixed) Nm.item_Without_1_h rfl (by kernel_rfl) (Nat.le_of_ble_eq_true rfl) rfl ?_
  refine NCall.call (containsDot_walk D x.dot hD) rfl rfl ?_
  exact NRet.mk [] rfl ⟨.refl _, rfl⟩
end Go.Bv
