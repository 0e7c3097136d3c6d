/- Part of the lift: an abstract walk of the program's code, proved sound, and what it shows of this program. -/
import Derived.Test.YtjgmoglhbdgmpaaGreatPart9
import Derived.Test.YtjgmoglhbdgmpaaGreatPart10
import Derived.Sort.Walk13a
namespace Go.Bv
set_option linter.unusedSimpArgs false
set_option linter.unusedVariables false
set_option maxHeartbeats 4000000
set_option maxRecDepth 20000
open Go Go.Proofs
open Go.Sort (swp xorNext xorNextN bitsLen breakStep breakPatterns)
theorem NW.of {k : IntKind} {z z' : Int} {next : Int → Prop} (e : z = z') (h : NW k z' next) : NW k z next := e ▸ h
theorem bs_eq (a len md : Nat) (r : UInt64) (d : Array Item) (idx : Nat) : breakStep a len md (r, d) idx = (xorNext r, swp d idx (a + (if (xorNext r).toNat &&& (md - 1) ≥ len then ((xorNext r).toNat &&& (md - 1)) - len else (xorNext r).toNat &&& (md - 1)))) := rfl
/-- Where the other one stands. -/
def othr (r : UInt64) (md len : Nat) : Nat := if (xorNext r).toNat &&& (md - 1) ≥ len then ((xorNext r).toNat &&& (md - 1)) - len else (xorNext r).toNat &&& (md - 1)
def brk (a len md : Nat) (st : UInt64 × Array Item) (idx : Nat) : Nat → UInt64 × Array Item
  | 0 => st
  | k + 1 => brk a len md (breakStep a len md st idx) (idx + 1) k
theorem othr_lt (r : UInt64) (len : Nat) (h : 8 ≤ len) : othr r (1 <<< bitsLen len) len < len := by
  have h2 := Go.Sort.two_pow_bitsLen_le (n := len) (by omega)
  have h4 : 1 <<< bitsLen len = 2 ^ bitsLen len := by rw [Nat.shiftLeft_eq, Nat.one_mul]
  have h5 := Go.Sort.lt_two_pow_bitsLen len
  rw [← h4] at h2 h5
  clear h4
  generalize 1 <<< bitsLen len = M at *
  have h3 : (xorNext r).toNat &&& (M - 1) ≤ M - 1 := Nat.and_le_right
  unfold othr
  split <;> omega
theorem break_walk (l : List Item) (a b : Nat) (hab : a ≤ b) (hb : b ≤ l.length) (hl : l.length ≤ 60000) : ACalls Tryz.prog Nm.slices_breakPatternsCmpFunc_api_Item [.own 0 0 l.length, i64 a, i64 b, .fn Nm.item_compare []]
    [.row .vrow (.agg 8) (l.map itemA)] (.tup []) [.row .vrow (.agg 8) ((breakPatterns l.toArray a b).toList.map itemA)] := by
  refine ACalls_of tab (dr_snd tab mixed) Nm.slices_breakPatternsCmpFunc_api_Item_h rfl (by kernel_rfl) (Nat.le_of_ble_eq_true rfl) rfl ?_
  have hbp : breakPatterns l.toArray a b = if b - a ≥ 8 then (brk a (b - a) (1 <<< bitsLen (b - a)) (UInt64.ofNat (b - a), l.toArray) (a + ((b - a) / 4) * 2 - 1) 3).2 else l.toArray := by
    simp only [breakPatterns, brk, Nat.add_assoc, Nat.reduceAdd, ge_iff_le]
  have e4 : ((b : Int) - (a : Int)).tdiv 4 = (((b - a) / 4 : Nat) : Int) := by
    rw [show (b : Int) - (a : Int) = ((b - a : Nat) : Int) by omega]
    exact (Int.ofNat_tdiv (b - a) 4).symm
  by_cases h8 : b - a ≥ 8
  · rw [hbp, if_pos h8]
    obtain ⟨len, hlen⟩ : ∃ k, k = b - a := ⟨_, rfl⟩
    have w0 := pow2_walk (b - a) (by omega)
    rw [← hlen] at h8 w0 e4 ⊢
    have el : (b : Int) - (a : Int) = (len : Int) := by omega
    have ew : IntKind.wrap .u64 (len : Int) = (len : Int) := by rw [wrap_u64]; omega
    obtain ⟨q, hq⟩ : ∃ k, k = len / 4 := ⟨_, rfl⟩
    rw [el] at e4
    rw [← hq] at e4 ⊢
    have hot := fun r => othr_lt r len (by omega)
    have hmd1 := Go.Sort.two_pow_bitsLen_le (n := len) (by omega)
    have hmd2 : 1 <<< bitsLen len = 2 ^ bitsLen len := by rw [Nat.shiftLeft_eq, Nat.one_mul]
    have hmd3 := Go.Sort.lt_two_pow_bitsLen len
    rw [← hmd2] at hmd1 hmd3
    clear hmd2
    generalize 1 <<< bitsLen len = md at *
    refine NW.i64 (by omega) (by omega) ?_
    rw [(el)]
    refine ND.yes (by omega) ?_
    refine NW.mk _ rfl ?_
    rw [(ew)]
    refine NCall.call (w0) rfl rfl ?_
    refine NP.mk (by omega) ?_
    rw [(e4)]
    refine NW.i64 (by omega) (by omega) ?_
    refine NW.i64 (by omega) (by omega) ?_
    refine NW.i64 (by omega) (by omega) ?_
    refine NW.i64 (by omega) (by omega) ?_
    refine NLoop.mk [] [0, 1, 8, 9, 10, 11] (fun m vs H => ∃ (k : Nat) (r : UInt64) (d : List Item), k ≤ 3 ∧ k = m ∧ d.length = l.length ∧ brk a len md (r, d.toArray) (a + q * 2 - 1 + (3 - k)) k = brk a len md (UInt64.ofNat len, l.toArray) (a + q * 2 - 1) 3 ∧
      H = [.row .vrow (.agg 8) (d.map itemA), .row .box .leaf [.int .u64 r.toNat]] ∧ vs = [.own 0 0 l.length, i64 a, i64 len, .ptr 1 0 0, .int .u64 md, i64 (a + q * 2 - 1 + (3 - k) : Nat)]) rfl ?_ ?_
    · exact Canon.mk [1] rfl ⟨_, 3, UInt64.ofNat len, l, Nat.le_refl _, rfl, rfl, rfl, by rw [show (UInt64.ofNat len).toNat = len by rw [UInt64.toNat_ofNat']; omega], by rw [show (a : Int) + (q : Int) * 2 - 1 = ((a + q * 2 - 1 + (3 - 3) : Nat) : Int) by omega]; rfl⟩
    rintro m vs H ⟨k, r, d, hk, rfl, hdl, he, rfl, rfl⟩
    rw [← he]
    cases k with
    | zero =>
      refine NP.mk (by omega) ?_
      refine NW.i64 (by omega) (by omega) ?_
      refine NW.i64 (by omega) (by omega) ?_
      refine NW.i64 (by omega) (by omega) ?_
      refine NW.i64 (by omega) (by omega) ?_
      refine ND.no (by omega) ?_
      exact NRet.mk [] rfl ⟨.refl _, rfl⟩
    | succ k =>
      have w1 := xorNext_walk r.toNat (by have := r.toNat_lt; omega)
      rw [← Go.Sort.xorNext_toNat] at w1
      have hR := (xorNext r).toNat_lt
      have ef := fun (_ : True) => and_u64n (xorNext r).toNat (md - 1) (by omega) (by omega)
      have em : (md : Int) - 1 = ((md - 1 : Nat) : Int) := by omega
      have hb1 : (xorNext r).toNat &&& (md - 1) ≤ md - 1 := Nat.and_le_right
      have em2 : IntKind.wrap .u64 ((md - 1 : Nat) : Int) = ((md - 1 : Nat) : Int) := by rw [wrap_u64]; omega
      have ho := hot r
      have hoe : othr r md len = if (xorNext r).toNat &&& (md - 1) ≥ len then ((xorNext r).toNat &&& (md - 1)) - len else (xorNext r).toNat &&& (md - 1) := by unfold othr; rfl
      have hix : ((a + q * 2 - 1 + (3 - (k + 1)) : Nat) : Int) + 1 = ((a + q * 2 - 1 + (3 - k) : Nat) : Int) := by omega
      have hix2 : a + q * 2 - 1 + (3 - (k + 1)) + 1 = a + q * 2 - 1 + (3 - k) := by omega
      have k1 : a + q * 2 - 1 + (3 - (k + 1)) < d.length := by omega
      have hbrk : brk a len md (r, d.toArray) (a + q * 2 - 1 + (3 - (k + 1))) (k + 1) = brk a len md (xorNext r, swp d.toArray (a + q * 2 - 1 + (3 - (k + 1))) (a + othr r md len)) (a + q * 2 - 1 + (3 - k)) k := by
        rw [brk, bs_eq, hix2]; unfold othr; rfl
      generalize a + q * 2 - 1 + (3 - (k + 1)) = idx at *
      generalize (xorNext r).toNat &&& (md - 1) = mk at *
      by_cases ho2 : mk ≥ len
      · rw [if_pos ho2] at hoe
        rw [hoe] at ho hbrk
        have k2 : a + (mk - len) < d.length := by omega
        have eo : (mk : Int) - (len : Int) = ((mk - len : Nat) : Int) := by omega
        have eI : Int.toNat ((a : Int) + ((mk - len : Nat) : Int)) = a + (mk - len) := by omega
        rw [swpL_eq k1 k2] at hbrk
        refine NP.mk (by omega) ?_
        refine NW.i64 (by omega) (by omega) ?_
        refine NW.i64 (by omega) (by omega) ?_
        refine NW.i64 (by omega) (by omega) ?_
        refine NW.i64 (by omega) (by omega) ?_
        refine ND.yes (by omega) ?_
        refine NCall.subA [1] (w1) ?_
        refine NW.mk _ rfl ?_
        rw [(em)]
        rw [(em2)]
        refine NW.of (ef trivial) ?_
        refine NW.i64 (by omega) (by omega) ?_
        refine ND.yes (by omega) ?_
        refine NW.i64 (by omega) (by omega) ?_
        rw [(eo)]
        refine NP.mk (by kernel_rfl) ?_
        apply NDr.any
        · intro H'
          exact ⟨rfl, rfl⟩
        apply NDr.pure
        · exact ⟨rfl, rfl⟩
        apply NDr.any
        · intro H'
          exact ⟨rfl, rfl⟩
        apply NDr.pure
        · exact ⟨rfl, rfl⟩
        apply NDr.pure
        · exact ⟨rfl, rfl⟩
        apply NDr.pure
        · refine NW.i64 (by omega) (by omega) ?_
          exact ⟨rfl, rfl⟩
        apply NDr.any
        · intro H'
          exact ⟨rfl, rfl⟩
        apply NDr.pure
        · exact ⟨rfl, rfl⟩
        apply NDr.pure
        · exact ⟨rfl, rfl⟩
        apply NDr.pure
        · refine NW.i64 (by omega) (by omega) ?_
          exact ⟨rfl, rfl⟩
        apply NDr.rd [0]
        · intro fH TH
          refine NP.mk (by (simp only [List.length_map, List.length_append, List.length_replicate, List.length_cons, List.length_nil, List.length_take, List.length_drop]; omega)) ?_
          rw [(eI)]
          exact ⟨rfl, rfl⟩
        apply NDr.rd [0]
        · intro fH TH
          refine NG.map0N (by omega) ?_
          exact ⟨rfl, rfl⟩
        apply NDr.any
        · intro H'
          exact ⟨rfl, rfl⟩
        apply NDr.pure
        · exact ⟨rfl, rfl⟩
        apply NDr.rd [0]
        · intro fH TH
          refine NP.mk (by (simp only [List.length_map, List.length_append, List.length_replicate, List.length_cons, List.length_nil, List.length_take, List.length_drop]; omega)) ?_
          exact ⟨rfl, rfl⟩
        apply NDr.rd [0]
        · intro fH TH
          refine NG.map0N (by omega) ?_
          exact ⟨rfl, rfl⟩
        apply NDr.rd [0]
        · intro fH TH
          refine NP.mk (by (simp only [List.length_map, List.length_append, List.length_replicate, List.length_cons, List.length_nil, List.length_take, List.length_drop]; omega)) ?_
          exact ⟨rfl, rfl⟩
        apply NDr.efw [0]
        · refine NG.map0N (by omega) ?_
          exact ⟨rfl, rfl⟩
        · repeat (first | exact True.intro | refine ⟨by first | exact rfl | exact True.intro, ?_⟩)
        apply NDr.efw []
        · refine NP.mk (by (simp; omega)) ?_
          rw [(eI)]
          exact ⟨rfl, rfl⟩
        · repeat (first | exact True.intro | refine ⟨by first | exact rfl | exact True.intro, ?_⟩)
        apply NDr.efw [0]
        · refine NG.get (by simp; omega) ?_
          exact ⟨rfl, rfl⟩
        · repeat (first | exact True.intro | refine ⟨by first | exact rfl | exact True.intro, ?_⟩)
        refine NP.mk (by kernel_rfl) ?_
        refine NW.i64 (by omega) (by omega) ?_
        exact Canon.mk [1] rfl ⟨k, by omega, k, xorNext r, swpL d idx (a + (mk - len)) k1 k2, by omega, rfl, (swpL_len k1 k2).trans hdl, hbrk.symm, by rw [← swpL_row k1 k2, Nat.zero_add, Nat.zero_add]; rfl, by rw [hix]; rfl⟩
      · rw [if_neg ho2] at hoe
        rw [hoe] at ho hbrk
        have k2 : a + mk < d.length := by omega
        have eI : Int.toNat ((a : Int) + (mk : Int)) = a + mk := by omega
        rw [swpL_eq k1 k2] at hbrk
        refine NP.mk (by omega) ?_
        refine NW.i64 (by omega) (by omega) ?_
        refine NW.i64 (by omega) (by omega) ?_
        refine NW.i64 (by omega) (by omega) ?_
        refine NW.i64 (by omega) (by omega) ?_
        refine ND.yes (by omega) ?_
        refine NCall.subA [1] (w1) ?_
        refine NW.mk _ rfl ?_
        rw [(em)]
        rw [(em2)]
        refine NW.of (ef trivial) ?_
        refine NW.i64 (by omega) (by omega) ?_
        refine ND.no (by omega) ?_
        refine NP.mk (by kernel_rfl) ?_
        apply NDr.any
        · intro H'
          exact ⟨rfl, rfl⟩
        apply NDr.pure
        · exact ⟨rfl, rfl⟩
        apply NDr.any
        · intro H'
          exact ⟨rfl, rfl⟩
        apply NDr.pure
        · exact ⟨rfl, rfl⟩
        apply NDr.pure
        · exact ⟨rfl, rfl⟩
        apply NDr.pure
        · refine NW.i64 (by omega) (by omega) ?_
          exact ⟨rfl, rfl⟩
        apply NDr.any
        · intro H'
          exact ⟨rfl, rfl⟩
        apply NDr.pure
        · exact ⟨rfl, rfl⟩
        apply NDr.pure
        · exact ⟨rfl, rfl⟩
        apply NDr.pure
        · refine NW.i64 (by omega) (by omega) ?_
          exact ⟨rfl, rfl⟩
        apply NDr.rd [0]
        · intro fH TH
          refine NP.mk (by (simp only [List.length_map, List.length_append, List.length_replicate, List.length_cons, List.length_nil, List.length_take, List.length_drop]; omega)) ?_
          rw [(eI)]
          exact ⟨rfl, rfl⟩
        apply NDr.rd [0]
        · intro fH TH
          refine NG.map0N (by omega) ?_
          exact ⟨rfl, rfl⟩
        apply NDr.any
        · intro H'
          exact ⟨rfl, rfl⟩
        apply NDr.pure
        · exact ⟨rfl, rfl⟩
        apply NDr.rd [0]
        · intro fH TH
          refine NP.mk (by (simp only [List.length_map, List.length_append, List.length_replicate, List.length_cons, List.length_nil, List.length_take, List.length_drop]; omega)) ?_
          exact ⟨rfl, rfl⟩
        apply NDr.rd [0]
        · intro fH TH
          refine NG.map0N (by omega) ?_
          exact ⟨rfl, rfl⟩
        apply NDr.rd [0]
        · intro fH TH
          refine NP.mk (by (simp only [List.length_map, List.length_append, List.length_replicate, List.length_cons, List.length_nil, List.length_take, List.length_drop]; omega)) ?_
          exact ⟨rfl, rfl⟩
        apply NDr.efw [0]
        · refine NG.map0N (by omega) ?_
          exact ⟨rfl, rfl⟩
        · repeat (first | exact True.intro | refine ⟨by first | exact rfl | exact True.intro, ?_⟩)
        apply NDr.efw []
        · refine NP.mk (by (simp; omega)) ?_
          rw [(eI)]
          exact ⟨rfl, rfl⟩
        · repeat (first | exact True.intro | refine ⟨by first | exact rfl | exact True.intro, ?_⟩)
        apply NDr.efw [0]
        · refine NG.get (by simp; omega) ?_
          exact ⟨rfl, rfl⟩
        · repeat (first | exact True.intro | refine ⟨by first | exact rfl | exact True.intro, ?_⟩)
        refine NP.mk (by kernel_rfl) ?_
        refine NW.i64 (by omega) (by omega) ?_
        exact Canon.mk [1] rfl ⟨k, by omega, k, xorNext r, swpL d idx (a + mk) k1 k2, by omega, rfl, (swpL_len k1 k2).trans hdl, hbrk.symm, by rw [← swpL_row k1 k2, Nat.zero_add, Nat.zero_add]; rfl, by rw [hix]; rfl⟩
  · rw [hbp, if_neg h8]
    refine NW.i64 (by omega) (by omega) ?_
    refine ND.no (by omega) ?_
    exact NRet.mk [] rfl ⟨.refl _, rfl⟩
end Go.Bv
namespace Go.Bv
set_option linter.unusedSimpArgs false
set_option linter.unusedVariables false
set_option maxHeartbeats 4000000
set_option maxRecDepth 20000
open Go Go.Proofs
open Go.Sort (insertionSort heapSort breakPatterns choosePivot reverseRange partialInsertionSort partition partitionEqual pdq rd Below hintCode Hint)
def PdqOk (P : Program) (n : Nat) : Prop := ∀ (l : List Item) (a b limit : Nat), b - a ≤ n → a ≤ b → b ≤ l.length → l.length ≤ 60000 → limit ≤ 100000 → Below ltI a b l.toArray → ACalls P Nm.slices_pdqsortCmpFunc_api_Item [.own 0 0 l.length, i64 a, i64 b, i64 limit, .fn Nm.item_compare []]
    [.row .vrow (.agg 8) (l.map itemA)] (.tup []) [.row .vrow (.agg 8) ((pdq ltI l.toArray a b limit true true).toList.map itemA)]
theorem pdq_walk : ∀ n, PdqOk Tryz.prog n := by
  intro n
  induction n with
  | zero =>
    intro l a b limit hn hab hb hl hlim hB
    refine ACalls_of tab (dr_snd tab mixed) Nm.slices_pdqsortCmpFunc_api_Item_h rfl (by kernel_rfl) (Nat.le_of_ble_eq_true rfl) rfl ?_
    have k1 := insertion_walk l a b hb (by omega) (by omega)
    rw [Go.Sort.pdq_small (lt := ltI) (d := l.toArray) (by omega)]
    skip
    refine NLoop.mk [] [0, 1, 2, 3, 4, 10, 11] (fun m vs H => m = 0 ∧ H = [.row .vrow (.agg 8) (l.map itemA)] ∧ vs = [.own 0 0 l.length, i64 a, i64 b, i64 limit, .fn Nm.item_compare [], .bool true, .bool true]) rfl ?_ ?_
    · exact Canon.mk [] rfl ⟨_, rfl, rfl, rfl⟩
    rintro m vs H ⟨rfl, rfl, rfl⟩
    refine NW.i64 (by omega) (by omega) ?_
    refine ND.yes (by omega) ?_
    refine NCall.atA (k1) ?_
    exact NRet.mk [] rfl ⟨.refl _, rfl⟩
  | succ n ih =>
    intro l a b limit hn hab hb hl hlim hB
    refine ACalls_of tab (dr_snd tab mixed) Nm.slices_pdqsortCmpFunc_api_Item_h rfl (by kernel_rfl) (Nat.le_of_ble_eq_true rfl) rfl ?_
    skip
    refine NLoop.mk [] [0, 1, 2, 3, 4, 10, 11] (fun m vs H => ∃ (a' b' lim : Nat) (wb wp : Bool) (e : List Item), m = b' - a' ∧ a' ≤ b' ∧ b' - a' ≤ n + 1 ∧ b' ≤ l.length ∧ lim ≤ limit ∧ e.length = l.length ∧ Below ltI a' b' e.toArray ∧
      pdq ltI e.toArray a' b' lim wb wp = pdq ltI l.toArray a b limit true true ∧ H = [.row .vrow (.agg 8) (e.map itemA)] ∧ vs = [.own 0 0 l.length, i64 a', i64 b', i64 lim, .fn Nm.item_compare [], .bool wb, .bool wp]) rfl ?_ ?_
    · exact Canon.mk [] rfl ⟨_, a, b, limit, true, true, l, rfl, hab, hn, hb, Nat.le_refl _, rfl, hB, rfl, rfl, rfl⟩
    rintro m vs H ⟨a', b', lim, wb, wp, e, rfl, hab', hn', hb', hlim', hel, hBe, he, rfl, rfl⟩
    rw [← he]
    clear he hB hn hab hb
    have hnS : b' ≤ a' + n + 1 := by omega
    clear hn'
    by_cases h12 : b' - a' ≤ 12
    · have k1 := insertion_walk e a' b' (by omega) (by omega) (by omega)
      rw [hel] at k1
      rw [Go.Sort.pdq_small (lt := ltI) (d := e.toArray) h12]
      refine NW.i64 (by omega) (by omega) ?_
      refine ND.yes (by omega) ?_
      refine NCall.atA (k1) ?_
      exact NRet.mk [] rfl ⟨.refl _, rfl⟩
    by_cases hl0 : lim = 0
    · have k1 := heapSort_walk e a' b' (by omega) (by omega) (by omega)
      rw [hel] at k1
      rw [Go.Sort.pdq_heap (lt := ltI) (d := e.toArray) h12 hl0]
      refine NW.i64 (by omega) (by omega) ?_
      refine ND.no (by omega) ?_
      refine ND.yes (by omega) ?_
      refine NCall.atA (k1) ?_
      exact NRet.mk [] rfl ⟨.refl _, rfl⟩
    obtain ⟨s1, B1, hc1, s2, B2, hpv, s3, B3⟩ := Go.Sort.rd_facts (lt := ltI) (d := e.toArray) (a := a') (b := b') (limit := lim) (wb := wb) (wp := wp) swoI Go.Sort.partialInsertionSort_holds Go.Sort.reverseRange_holds (show a' < b' by omega) (by simpa using (by omega : b' ≤ e.length)) hBe
    have hdone := fun h => Go.Sort.pdq_done (lt := ltI) (d := e.toArray) (a := a') (b := b') (limit := lim) (wb := wb) (wp := wp) h12 hl0 h
    have heq := fun h g => Go.Sort.pdq_eq (lt := ltI) (d := e.toArray) (a := a') (b := b') (limit := lim) (wb := wb) (wp := wp) h12 hl0 h g
    have hleft := fun h g => Go.Sort.pdq_left (lt := ltI) (d := e.toArray) (a := a') (b := b') (limit := lim) (wb := wb) (wp := wp) h12 hl0 h g
    have hright := fun h g => Go.Sort.pdq_right (lt := ltI) (d := e.toArray) (a := a') (b := b') (limit := lim) (wb := wb) (wp := wp) h12 hl0 h g
    have h12S : a' + 12 < b' := by omega
    clear h12
    have hrc := Go.Sort.rd_c (lt := ltI) (d := e.toArray) (a := a') (b := b') (limit := lim) (wb := wb) (wp := wp)
    have hdec := Go.Sort.rd_dec (lt := ltI) (d := e.toArray) (a := a') (b := b') (limit := lim) (wb := wb) (wp := wp)
    have hnot := Go.Sort.rd_not (lt := ltI) (d := e.toArray) (a := a') (b := b') (limit := lim) (wb := wb) (wp := wp)
    have hyes := Go.Sort.rd_pi_yes (lt := ltI) (d := e.toArray) (a := a') (b := b') (limit := lim) (wb := wb) (wp := wp)
    have hno := Go.Sort.rd_pi_no (lt := ltI) (d := e.toArray) (a := a') (b := b') (limit := lim) (wb := wb) (wp := wp)
    have hf1 : wb = false → (rd ltI e.toArray a' b' lim wb wp).d1 = breakPatterns e.toArray a' b' ∧ (rd ltI e.toArray a' b' lim wb wp).lim = lim - 1 := fun h => by subst h; exact Go.Sort.rd_false (lt := ltI) (d := e.toArray) (a := a') (b := b') (limit := lim) (wp := wp)
    have hf2 : wb = true → (rd ltI e.toArray a' b' lim wb wp).d1 = e.toArray ∧ (rd ltI e.toArray a' b' lim wb wp).lim = lim := fun h => by subst h; exact Go.Sort.rd_true (lt := ltI) (d := e.toArray) (a := a') (b := b') (limit := lim) (wp := wp)
    have kb := break_walk e a' b' (by omega) (by omega) (by omega)
    rw [hel] at kb
    generalize rd ltI e.toArray a' b' lim wb wp = D at *
    simp only [List.size_toArray] at s1 s2 s3
    have kc := choosePivot_walk D.d1.toList a' b' (by omega) (by simpa using (by omega : b' ≤ D.d1.size)) (by simpa using (by omega : D.d1.size ≤ 2 ^ 39))
    have kr := reverse_walk D.d1.toList a' b' (by omega) (by simpa using (by omega : b' ≤ D.d1.size)) (by simpa using (by omega : D.d1.size ≤ 2 ^ 39))
    have kp := partialIns_walk D.d2.toList a' b' (by omega) (by simpa using (by omega : b' ≤ D.d2.size)) (by simpa using (by omega : D.d2.size ≤ 2 ^ 39))
    have z1 : D.d1.toList.length = l.length := by simp; omega
    have z2 : D.d2.toList.length = l.length := by simp; omega
    have z3 : D.pi.1.toList.length = l.length := by simp; omega
    rw [z1, toA, ← hrc] at kc
    rw [z1, toA] at kr
    rw [z2, toA] at kp
    have kd := partition_walk D.pi.1.toList a' b' D.pivot hpv.1 hpv.2 (by omega) (by omega)
    have ke := partitionEqual_walk D.pi.1.toList a' b' D.pivot hpv.1 hpv.2 (by omega) (by omega)
    rw [z3, toA] at kd ke
    obtain ⟨mid, apd, d4, hx⟩ : ∃ mid apd d4, partition ltI D.pi.1 a' b' D.pivot = (mid, apd, d4) := ⟨_, _, _, rfl⟩
    obtain ⟨r1, r2, r3, r4, r5, r6, r7⟩ := Go.Sort.round_part swoI (Go.Sort.partition_holds ltI) hpv.1 hpv.2 (by omega) B3 hx
    have hleft := fun h g => hleft h g (by rw [hx]; exact ⟨r1, r2⟩)
    have hright := fun h g => hright h g (by rw [hx]; exact ⟨r1, r2⟩)
    rw [hx] at kd hleft hright
    dsimp only at kd hleft hright
    have z4 : d4.toList.length = l.length := by simp; omega
    have hl8 : lim ≤ 100000 := by omega
    have hll : D.lim ≤ 100000 := by
      cases wb with
      | false => have := (hf1 rfl).2; omega
      | true => have := (hf2 rfl).2; omega
    have hlq : D.lim ≤ limit := by
      cases wb with
      | false => have := (hf1 rfl).2; omega
      | true => have := (hf2 rfl).2; omega
    have q1 := ih d4.toList a' mid D.lim (by omega) (by omega) (by omega) (by omega) (by omega) (by rw [toA]; exact r4)
    have q2 := ih d4.toList (mid + 1) b' D.lim (by omega) (by omega) (by omega) (by omega) (by omega) (by rw [toA]; exact r5)
    rw [z4, toA] at q1 q2
    obtain ⟨pL, sL⟩ := Go.Sort.pdq_sorts ltI swoI d4 a' mid D.lim true true (by omega) (by omega) r4
    obtain ⟨pR, sR⟩ := Go.Sort.pdq_sorts ltI swoI d4 (mid + 1) b' D.lim true true (by omega) (by omega) r5
    have bL := (r6 _ pL sL).1
    have bR := (r7 _ pR sR).1
    have tL := pL.1
    have tR := pR.1
    clear r6 r7 pL sL pR sR ih B1 B2 hBe hrc hx r4 r5
    obtain ⟨q8, hq8⟩ : ∃ k, k = (b' - a') / 8 := ⟨_, rfl⟩
    have e8 : True → ((b' : Int) - (a' : Int)).tdiv 8 = (q8 : Int) := fun _ => by
      rw [hq8, show (b' : Int) - (a' : Int) = ((b' - a' : Nat) : Int) by omega]
      exact (Int.ofNat_tdiv (b' - a') 8).symm
    rw [← hq8] at hleft hright
    have hqS : 8 * q8 ≤ b' := by omega
    clear hq8
    have zL : (pdq ltI d4 a' mid D.lim true true).size = l.length := by omega
    have zR : (pdq ltI d4 (mid + 1) b' D.lim true true).size = l.length := by omega
    have sz3 : D.pi.1.size = l.length := by omega
    clear tL tR s1 s2 s3 r3 z4
    cases wb with
    | false =>
      obtain ⟨hd1, hdl⟩ := hf1 rfl
      rw [← hd1] at kb
      have el : True → (lim : Int) - 1 = (D.lim : Int) := fun _ => by omega
      have epi := hno (by simp)
      have hp2 : D.pi.2 = false := by rw [epi]
      by_cases hh : D.c.2 = .decreasing
      · have hcode : hintCode D.c.2 = 2 := by rw [hh]; rfl
        obtain ⟨e2, ep, eh⟩ := hdec hh
        rw [← e2] at kr
        have epv : True → ((b' : Int) - 1) - ((D.c.1 : Int) - (a' : Int)) = (D.pivot : Int) := fun _ => by omega
        clear ep
        have hrow3 : D.pi.1.toList.map itemA = D.d2.toList.map itemA := by rw [epi]
        rw [hrow3] at kd ke
        have hcur : D.pi.1 = (D.d2.toList).toArray := by rw [epi, toA]
        have gp : D.pivot < (D.d2.toList).length := by omega
        by_cases ha0 : a' = 0
        · have dec0 : ¬ a' > 0 := by omega
          have h87 : (decide (a' > 0) && !ltI D.pi.1[a' - 1]! D.pi.1[D.pivot]!) = false := by rw [decide_eq_false dec0]; rfl
          have hleft := hleft hp2 h87
          have hright := hright hp2 h87
          by_cases h4 : mid - a' < b' - mid
          · have hL := hleft h4
            have h4S : mid + mid < a' + b' := by omega
            clear h4
            refine NW.i64 (by omega) (by omega) ?_
            refine ND.no (by omega) ?_
            refine ND.no (by omega) ?_
            refine NCall.atA (kb) ?_
            refine NW.i64 (by omega) (by omega) ?_
            rw [(el trivial)]
            refine NCall.atA (kc) ?_
            refine ND.yes (by omega) ?_
            refine NCall.atA (kr) ?_
            refine NW.i64 (by omega) (by omega) ?_
            refine NW.i64 (by omega) (by omega) ?_
            refine NW.i64 (by omega) (by omega) ?_
            rw [(epv trivial)]
            refine NP.mk (by kernel_rfl) ?_
            apply NDr.pure
            · exact ⟨rfl, rfl⟩
            apply NDr.pure
            · refine ND.no (by omega) ?_
              exact ⟨rfl, rfl⟩
            apply NDr.pure
            · exact ⟨rfl, rfl⟩
            apply NDr.pure
            · exact ⟨rfl, rfl⟩
            refine NP.mk (by kernel_rfl) ?_
            refine NCall.atA (kd) ?_
            refine NW.i64 (by omega) (by omega) ?_
            refine NW.i64 (by omega) (by omega) ?_
            refine NP.mk (by omega) ?_
            rw [(e8 trivial)]
            refine NW.i64 (by omega) (by omega) ?_
            refine ND.yes (by omega) ?_
            refine NB.dec (fun h8 => ?_) (fun h8 => ?_)
            · have hL := hL
              rw [decide_eq_true (show mid - a' ≥ q8 by omega)] at hL
              refine NCall.atA (q1) ?_
              refine NW.i64 (by omega) (by omega) ?_
              exact Canon.mk [] rfl ⟨b' - (mid + 1), by omega, mid + 1, b', D.lim, true, apd, (pdq ltI d4 a' mid D.lim true true).toList, rfl, by omega, by omega, by omega, by omega, by simp; omega, by rw [toA]; exact bL, by rw [toA, hL], rfl, rfl⟩
            · have hL := hL
              rw [decide_eq_false (show ¬ (mid - a' ≥ q8) by omega)] at hL
              refine NCall.atA (q1) ?_
              refine NW.i64 (by omega) (by omega) ?_
              exact Canon.mk [] rfl ⟨b' - (mid + 1), by omega, mid + 1, b', D.lim, false, apd, (pdq ltI d4 a' mid D.lim true true).toList, rfl, by omega, by omega, by omega, by omega, by simp; omega, by rw [toA]; exact bL, by rw [toA, hL], rfl, rfl⟩
          · rw [show ((mid + 1 : Nat) : Int) = (mid : Int) + 1 by omega] at q2
            have hR := hright h4
            have h4S : ¬ mid + mid < a' + b' := by omega
            clear h4
            refine NW.i64 (by omega) (by omega) ?_
            refine ND.no (by omega) ?_
            refine ND.no (by omega) ?_
            refine NCall.atA (kb) ?_
            refine NW.i64 (by omega) (by omega) ?_
            rw [(el trivial)]
            refine NCall.atA (kc) ?_
            refine ND.yes (by omega) ?_
            refine NCall.atA (kr) ?_
            refine NW.i64 (by omega) (by omega) ?_
            refine NW.i64 (by omega) (by omega) ?_
            refine NW.i64 (by omega) (by omega) ?_
            rw [(epv trivial)]
            refine NP.mk (by kernel_rfl) ?_
            apply NDr.pure
            · exact ⟨rfl, rfl⟩
            apply NDr.pure
            · refine ND.no (by omega) ?_
              exact ⟨rfl, rfl⟩
            apply NDr.pure
            · exact ⟨rfl, rfl⟩
            apply NDr.pure
            · exact ⟨rfl, rfl⟩
            refine NP.mk (by kernel_rfl) ?_
            refine NCall.atA (kd) ?_
            refine NW.i64 (by omega) (by omega) ?_
            refine NW.i64 (by omega) (by omega) ?_
            refine NP.mk (by omega) ?_
            rw [(e8 trivial)]
            refine NW.i64 (by omega) (by omega) ?_
            refine ND.no (by omega) ?_
            refine NB.dec (fun h8 => ?_) (fun h8 => ?_)
            · have hR := hR
              rw [decide_eq_true (show b' - mid ≥ q8 by omega)] at hR
              refine NW.i64 (by omega) (by omega) ?_
              refine NCall.atA (q2) ?_
              exact Canon.mk [] rfl ⟨mid - a', by omega, a', mid, D.lim, true, apd, (pdq ltI d4 (mid + 1) b' D.lim true true).toList, rfl, by omega, by omega, by omega, by omega, by simp; omega, by rw [toA]; exact bR, by rw [toA, hR], rfl, rfl⟩
            · have hR := hR
              rw [decide_eq_false (show ¬ (b' - mid ≥ q8) by omega)] at hR
              refine NW.i64 (by omega) (by omega) ?_
              refine NCall.atA (q2) ?_
              exact Canon.mk [] rfl ⟨mid - a', by omega, a', mid, D.lim, false, apd, (pdq ltI d4 (mid + 1) b' D.lim true true).toList, rfl, by omega, by omega, by omega, by omega, by simp; omega, by rw [toA]; exact bR, by rw [toA, hR], rfl, rfl⟩
        · have ga : a' - 1 < (D.d2.toList).length := by omega
          have ea : True → Int.toNat ((a' : Int) - 1) = a' - 1 := fun _ => by omega
          have b1 := item_compare_walk (D.d2.toList)[a' - 1] (D.d2.toList)[D.pivot]
          have y1 := getA ga
          have y2 := getA gp
          cases t : ltI (D.d2.toList)[a' - 1] (D.d2.toList)[D.pivot] with
          | true =>
            have u := ltT t
            have h87 : (decide (a' > 0) && !ltI D.pi.1[a' - 1]! D.pi.1[D.pivot]!) = false := by rw [hcur, y1, y2, t]; simp
            have hleft := hleft hp2 h87
            have hright := hright hp2 h87
            by_cases h4 : mid - a' < b' - mid
            · have hL := hleft h4
              have h4S : mid + mid < a' + b' := by omega
              clear h4
              refine NW.i64 (by omega) (by omega) ?_
              refine ND.no (by omega) ?_
              refine ND.no (by omega) ?_
              refine NCall.atA (kb) ?_
              refine NW.i64 (by omega) (by omega) ?_
              rw [(el trivial)]
              refine NCall.atA (kc) ?_
              refine ND.yes (by omega) ?_
              refine NCall.atA (kr) ?_
              refine NW.i64 (by omega) (by omega) ?_
              refine NW.i64 (by omega) (by omega) ?_
              refine NW.i64 (by omega) (by omega) ?_
              rw [(epv trivial)]
              refine NP.mk (by kernel_rfl) ?_
              apply NDr.pure
              · exact ⟨rfl, rfl⟩
              apply NDr.pure
              · refine ND.yes (by omega) ?_
                exact ⟨rfl, rfl⟩
              apply NDr.pure
              · exact ⟨rfl, rfl⟩
              apply NDr.pure
              · exact ⟨rfl, rfl⟩
              apply NDr.any
              · intro H'
                exact ⟨rfl, rfl⟩
              apply NDr.pure
              · exact ⟨rfl, rfl⟩
              apply NDr.pure
              · refine NW.i64 (by omega) (by omega) ?_
                exact ⟨rfl, rfl⟩
              apply NDr.rd [0]
              · intro fH TH
                refine NP.mk (by (simp only [List.length_map, List.length_append, List.length_replicate, List.length_cons, List.length_nil, List.length_take, List.length_drop]; omega)) ?_
                rw [(ea trivial)]
                exact ⟨rfl, rfl⟩
              apply NDr.rd [0]
              · intro fH TH
                refine NG.map0N (by omega) ?_
                exact ⟨rfl, rfl⟩
              apply NDr.any
              · intro H'
                exact ⟨rfl, rfl⟩
              apply NDr.pure
              · exact ⟨rfl, rfl⟩
              apply NDr.rd [0]
              · intro fH TH
                refine NP.mk (by (simp only [List.length_map, List.length_append, List.length_replicate, List.length_cons, List.length_nil, List.length_take, List.length_drop]; omega)) ?_
                exact ⟨rfl, rfl⟩
              apply NDr.rd [0]
              · intro fH TH
                refine NG.map0N (by omega) ?_
                exact ⟨rfl, rfl⟩
              apply NDr.pure
              · refine NCall.call (b1) rfl rfl ?_
                exact ⟨rfl, rfl⟩
              apply NDr.pure
              · refine ND.yes (by omega) ?_
                exact ⟨rfl, rfl⟩
              apply NDr.pure
              · exact ⟨rfl, rfl⟩
              apply NDr.pure
              · exact ⟨rfl, rfl⟩
              refine NP.mk (by kernel_rfl) ?_
              refine NCall.atA (kd) ?_
              refine NW.i64 (by omega) (by omega) ?_
              refine NW.i64 (by omega) (by omega) ?_
              refine NP.mk (by omega) ?_
              rw [(e8 trivial)]
              refine NW.i64 (by omega) (by omega) ?_
              refine ND.yes (by omega) ?_
              refine NB.dec (fun h8 => ?_) (fun h8 => ?_)
              · have hL := hL
                rw [decide_eq_true (show mid - a' ≥ q8 by omega)] at hL
                refine NCall.atA (q1) ?_
                refine NW.i64 (by omega) (by omega) ?_
                exact Canon.mk [] rfl ⟨b' - (mid + 1), by omega, mid + 1, b', D.lim, true, apd, (pdq ltI d4 a' mid D.lim true true).toList, rfl, by omega, by omega, by omega, by omega, by simp; omega, by rw [toA]; exact bL, by rw [toA, hL], rfl, rfl⟩
              · have hL := hL
                rw [decide_eq_false (show ¬ (mid - a' ≥ q8) by omega)] at hL
                refine NCall.atA (q1) ?_
                refine NW.i64 (by omega) (by omega) ?_
                exact Canon.mk [] rfl ⟨b' - (mid + 1), by omega, mid + 1, b', D.lim, false, apd, (pdq ltI d4 a' mid D.lim true true).toList, rfl, by omega, by omega, by omega, by omega, by simp; omega, by rw [toA]; exact bL, by rw [toA, hL], rfl, rfl⟩
            · rw [show ((mid + 1 : Nat) : Int) = (mid : Int) + 1 by omega] at q2
              have hR := hright h4
              have h4S : ¬ mid + mid < a' + b' := by omega
              clear h4
              refine NW.i64 (by omega) (by omega) ?_
              refine ND.no (by omega) ?_
              refine ND.no (by omega) ?_
              refine NCall.atA (kb) ?_
              refine NW.i64 (by omega) (by omega) ?_
              rw [(el trivial)]
              refine NCall.atA (kc) ?_
              refine ND.yes (by omega) ?_
              refine NCall.atA (kr) ?_
              refine NW.i64 (by omega) (by omega) ?_
              refine NW.i64 (by omega) (by omega) ?_
              refine NW.i64 (by omega) (by omega) ?_
              rw [(epv trivial)]
              refine NP.mk (by kernel_rfl) ?_
              apply NDr.pure
              · exact ⟨rfl, rfl⟩
              apply NDr.pure
              · refine ND.yes (by omega) ?_
                exact ⟨rfl, rfl⟩
              apply NDr.pure
              · exact ⟨rfl, rfl⟩
              apply NDr.pure
              · exact ⟨rfl, rfl⟩
              apply NDr.any
              · intro H'
                exact ⟨rfl, rfl⟩
              apply NDr.pure
              · exact ⟨rfl, rfl⟩
              apply NDr.pure
              · refine NW.i64 (by omega) (by omega) ?_
                exact ⟨rfl, rfl⟩
              apply NDr.rd [0]
              · intro fH TH
                refine NP.mk (by (simp only [List.length_map, List.length_append, List.length_replicate, List.length_cons, List.length_nil, List.length_take, List.length_drop]; omega)) ?_
                rw [(ea trivial)]
                exact ⟨rfl, rfl⟩
              apply NDr.rd [0]
              · intro fH TH
                refine NG.map0N (by omega) ?_
                exact ⟨rfl, rfl⟩
              apply NDr.any
              · intro H'
                exact ⟨rfl, rfl⟩
              apply NDr.pure
              · exact ⟨rfl, rfl⟩
              apply NDr.rd [0]
              · intro fH TH
                refine NP.mk (by (simp only [List.length_map, List.length_append, List.length_replicate, List.length_cons, List.length_nil, List.length_take, List.length_drop]; omega)) ?_
                exact ⟨rfl, rfl⟩
              apply NDr.rd [0]
              · intro fH TH
                refine NG.map0N (by omega) ?_
                exact ⟨rfl, rfl⟩
              apply NDr.pure
              · refine NCall.call (b1) rfl rfl ?_
                exact ⟨rfl, rfl⟩
              apply NDr.pure
              · refine ND.yes (by omega) ?_
                exact ⟨rfl, rfl⟩
              apply NDr.pure
              · exact ⟨rfl, rfl⟩
              apply NDr.pure
              · exact ⟨rfl, rfl⟩
              refine NP.mk (by kernel_rfl) ?_
              refine NCall.atA (kd) ?_
              refine NW.i64 (by omega) (by omega) ?_
              refine NW.i64 (by omega) (by omega) ?_
              refine NP.mk (by omega) ?_
              rw [(e8 trivial)]
              refine NW.i64 (by omega) (by omega) ?_
              refine ND.no (by omega) ?_
              refine NB.dec (fun h8 => ?_) (fun h8 => ?_)
              · have hR := hR
                rw [decide_eq_true (show b' - mid ≥ q8 by omega)] at hR
                refine NW.i64 (by omega) (by omega) ?_
                refine NCall.atA (q2) ?_
                exact Canon.mk [] rfl ⟨mid - a', by omega, a', mid, D.lim, true, apd, (pdq ltI d4 (mid + 1) b' D.lim true true).toList, rfl, by omega, by omega, by omega, by omega, by simp; omega, by rw [toA]; exact bR, by rw [toA, hR], rfl, rfl⟩
              · have hR := hR
                rw [decide_eq_false (show ¬ (b' - mid ≥ q8) by omega)] at hR
                refine NW.i64 (by omega) (by omega) ?_
                refine NCall.atA (q2) ?_
                exact Canon.mk [] rfl ⟨mid - a', by omega, a', mid, D.lim, false, apd, (pdq ltI d4 (mid + 1) b' D.lim true true).toList, rfl, by omega, by omega, by omega, by omega, by simp; omega, by rw [toA]; exact bR, by rw [toA, hR], rfl, rfl⟩
          | false =>
            have u := ltF t
            have h87 : (decide (a' > 0) && !ltI D.pi.1[a' - 1]! D.pi.1[D.pivot]!) = true := by rw [hcur, y1, y2, t]; simp; omega
            obtain ⟨mi, d5, hy⟩ : ∃ mi d5, partitionEqual ltI D.pi.1 a' b' D.pivot = (mi, d5) := ⟨_, _, rfl⟩
            obtain ⟨r1, r2, r3, r4, _⟩ := Go.Sort.round_eq swoI (Go.Sort.partitionEqual_holds ltI) (by omega) hpv.1 hpv.2 (by omega) B3 (by rw [hcur, y1, y2, t]) hy
            have heq := heq hp2 h87 (by rw [hy]; exact ⟨r1, r2⟩)
            rw [hy] at ke heq
            dsimp only at ke heq
            refine NW.i64 (by omega) (by omega) ?_
            refine ND.no (by omega) ?_
            refine ND.no (by omega) ?_
            refine NCall.atA (kb) ?_
            refine NW.i64 (by omega) (by omega) ?_
            rw [(el trivial)]
            refine NCall.atA (kc) ?_
            refine ND.yes (by omega) ?_
            refine NCall.atA (kr) ?_
            refine NW.i64 (by omega) (by omega) ?_
            refine NW.i64 (by omega) (by omega) ?_
            refine NW.i64 (by omega) (by omega) ?_
            rw [(epv trivial)]
            refine NP.mk (by kernel_rfl) ?_
            apply NDr.pure
            · exact ⟨rfl, rfl⟩
            apply NDr.pure
            · refine ND.yes (by omega) ?_
              exact ⟨rfl, rfl⟩
            apply NDr.pure
            · exact ⟨rfl, rfl⟩
            apply NDr.pure
            · exact ⟨rfl, rfl⟩
            apply NDr.any
            · intro H'
              exact ⟨rfl, rfl⟩
            apply NDr.pure
            · exact ⟨rfl, rfl⟩
            apply NDr.pure
            · refine NW.i64 (by omega) (by omega) ?_
              exact ⟨rfl, rfl⟩
            apply NDr.rd [0]
            · intro fH TH
              refine NP.mk (by (simp only [List.length_map, List.length_append, List.length_replicate, List.length_cons, List.length_nil, List.length_take, List.length_drop]; omega)) ?_
              rw [(ea trivial)]
              exact ⟨rfl, rfl⟩
            apply NDr.rd [0]
            · intro fH TH
              refine NG.map0N (by omega) ?_
              exact ⟨rfl, rfl⟩
            apply NDr.any
            · intro H'
              exact ⟨rfl, rfl⟩
            apply NDr.pure
            · exact ⟨rfl, rfl⟩
            apply NDr.rd [0]
            · intro fH TH
              refine NP.mk (by (simp only [List.length_map, List.length_append, List.length_replicate, List.length_cons, List.length_nil, List.length_take, List.length_drop]; omega)) ?_
              exact ⟨rfl, rfl⟩
            apply NDr.rd [0]
            · intro fH TH
              refine NG.map0N (by omega) ?_
              exact ⟨rfl, rfl⟩
            apply NDr.pure
            · refine NCall.call (b1) rfl rfl ?_
              exact ⟨rfl, rfl⟩
            apply NDr.pure
            · refine ND.no (by omega) ?_
              exact ⟨rfl, rfl⟩
            apply NDr.pure
            · exact ⟨rfl, rfl⟩
            apply NDr.pure
            · exact ⟨rfl, rfl⟩
            refine NP.mk (by kernel_rfl) ?_
            refine NCall.atA (ke) ?_
            exact Canon.mk [] rfl ⟨b' - mi, by omega, mi, b', D.lim, false, wp, d5.toList, rfl, by omega, by omega, by omega, by omega, by simp; omega, by rw [toA]; exact r4, by rw [toA, heq], rfl, rfl⟩
      · have hcode : ¬ hintCode D.c.2 = 2 := by cases h : D.c.2 with | decreasing => exact absurd h hh | increasing => simp [hintCode] | unknown => simp [hintCode]
        obtain ⟨e2, ep, eh⟩ := hnot hh
        rw [← ep] at kc
        have hrow3 : D.pi.1.toList.map itemA = D.d1.toList.map itemA := by rw [epi, e2]
        rw [hrow3] at kd ke
        have hcur : D.pi.1 = (D.d1.toList).toArray := by rw [epi, e2, toA]
        have gp : D.pivot < (D.d1.toList).length := by omega
        by_cases ha0 : a' = 0
        · have dec0 : ¬ a' > 0 := by omega
          have h87 : (decide (a' > 0) && !ltI D.pi.1[a' - 1]! D.pi.1[D.pivot]!) = false := by rw [decide_eq_false dec0]; rfl
          have hleft := hleft hp2 h87
          have hright := hright hp2 h87
          by_cases h4 : mid - a' < b' - mid
          · have hL := hleft h4
            have h4S : mid + mid < a' + b' := by omega
            clear h4
            refine NW.i64 (by omega) (by omega) ?_
            refine ND.no (by omega) ?_
            refine ND.no (by omega) ?_
            refine NCall.atA (kb) ?_
            refine NW.i64 (by omega) (by omega) ?_
            rw [(el trivial)]
            refine NCall.atA (kc) ?_
            refine ND.no (by omega) ?_
            refine NP.mk (by kernel_rfl) ?_
            apply NDr.pure
            · exact ⟨rfl, rfl⟩
            apply NDr.pure
            · refine ND.no (by omega) ?_
              exact ⟨rfl, rfl⟩
            apply NDr.pure
            · exact ⟨rfl, rfl⟩
            apply NDr.pure
            · exact ⟨rfl, rfl⟩
            refine NP.mk (by kernel_rfl) ?_
            refine NCall.atA (kd) ?_
            refine NW.i64 (by omega) (by omega) ?_
            refine NW.i64 (by omega) (by omega) ?_
            refine NP.mk (by omega) ?_
            rw [(e8 trivial)]
            refine NW.i64 (by omega) (by omega) ?_
            refine ND.yes (by omega) ?_
            refine NB.dec (fun h8 => ?_) (fun h8 => ?_)
            · have hL := hL
              rw [decide_eq_true (show mid - a' ≥ q8 by omega)] at hL
              refine NCall.atA (q1) ?_
              refine NW.i64 (by omega) (by omega) ?_
              exact Canon.mk [] rfl ⟨b' - (mid + 1), by omega, mid + 1, b', D.lim, true, apd, (pdq ltI d4 a' mid D.lim true true).toList, rfl, by omega, by omega, by omega, by omega, by simp; omega, by rw [toA]; exact bL, by rw [toA, hL], rfl, rfl⟩
            · have hL := hL
              rw [decide_eq_false (show ¬ (mid - a' ≥ q8) by omega)] at hL
              refine NCall.atA (q1) ?_
              refine NW.i64 (by omega) (by omega) ?_
              exact Canon.mk [] rfl ⟨b' - (mid + 1), by omega, mid + 1, b', D.lim, false, apd, (pdq ltI d4 a' mid D.lim true true).toList, rfl, by omega, by omega, by omega, by omega, by simp; omega, by rw [toA]; exact bL, by rw [toA, hL], rfl, rfl⟩
          · rw [show ((mid + 1 : Nat) : Int) = (mid : Int) + 1 by omega] at q2
            have hR := hright h4
            have h4S : ¬ mid + mid < a' + b' := by omega
            clear h4
            refine NW.i64 (by omega) (by omega) ?_
            refine ND.no (by omega) ?_
            refine ND.no (by omega) ?_
            refine NCall.atA (kb) ?_
            refine NW.i64 (by omega) (by omega) ?_
            rw [(el trivial)]
            refine NCall.atA (kc) ?_
            refine ND.no (by omega) ?_
            refine NP.mk (by kernel_rfl) ?_
            apply NDr.pure
            · exact ⟨rfl, rfl⟩
            apply NDr.pure
            · refine ND.no (by omega) ?_
              exact ⟨rfl, rfl⟩
            apply NDr.pure
            · exact ⟨rfl, rfl⟩
            apply NDr.pure
            · exact ⟨rfl, rfl⟩
            refine NP.mk (by kernel_rfl) ?_
            refine NCall.atA (kd) ?_
            refine NW.i64 (by omega) (by omega) ?_
            refine NW.i64 (by omega) (by omega) ?_
            refine NP.mk (by omega) ?_
            rw [(e8 trivial)]
            refine NW.i64 (by omega) (by omega) ?_
            refine ND.no (by omega) ?_
            refine NB.dec (fun h8 => ?_) (fun h8 => ?_)
            · have hR := hR
              rw [decide_eq_true (show b' - mid ≥ q8 by omega)] at hR
              refine NW.i64 (by omega) (by omega) ?_
              refine NCall.atA (q2) ?_
              exact Canon.mk [] rfl ⟨mid - a', by omega, a', mid, D.lim, true, apd, (pdq ltI d4 (mid + 1) b' D.lim true true).toList, rfl, by omega, by omega, by omega, by omega, by simp; omega, by rw [toA]; exact bR, by rw [toA, hR], rfl, rfl⟩
            · have hR := hR
              rw [decide_eq_false (show ¬ (b' - mid ≥ q8) by omega)] at hR
              refine NW.i64 (by omega) (by omega) ?_
              refine NCall.atA (q2) ?_
              exact Canon.mk [] rfl ⟨mid - a', by omega, a', mid, D.lim, false, apd, (pdq ltI d4 (mid + 1) b' D.lim true true).toList, rfl, by omega, by omega, by omega, by omega, by simp; omega, by rw [toA]; exact bR, by rw [toA, hR], rfl, rfl⟩
        · have ga : a' - 1 < (D.d1.toList).length := by omega
          have ea : True → Int.toNat ((a' : Int) - 1) = a' - 1 := fun _ => by omega
          have b1 := item_compare_walk (D.d1.toList)[a' - 1] (D.d1.toList)[D.pivot]
          have y1 := getA ga
          have y2 := getA gp
          cases t : ltI (D.d1.toList)[a' - 1] (D.d1.toList)[D.pivot] with
          | true =>
            have u := ltT t
            have h87 : (decide (a' > 0) && !ltI D.pi.1[a' - 1]! D.pi.1[D.pivot]!) = false := by rw [hcur, y1, y2, t]; simp
            have hleft := hleft hp2 h87
            have hright := hright hp2 h87
            by_cases h4 : mid - a' < b' - mid
            · have hL := hleft h4
              have h4S : mid + mid < a' + b' := by omega
              clear h4
              refine NW.i64 (by omega) (by omega) ?_
              refine ND.no (by omega) ?_
              refine ND.no (by omega) ?_
              refine NCall.atA (kb) ?_
              refine NW.i64 (by omega) (by omega) ?_
              rw [(el trivial)]
              refine NCall.atA (kc) ?_
              refine ND.no (by omega) ?_
              refine NP.mk (by kernel_rfl) ?_
              apply NDr.pure
              · exact ⟨rfl, rfl⟩
              apply NDr.pure
              · refine ND.yes (by omega) ?_
                exact ⟨rfl, rfl⟩
              apply NDr.pure
              · exact ⟨rfl, rfl⟩
              apply NDr.pure
              · exact ⟨rfl, rfl⟩
              apply NDr.any
              · intro H'
                exact ⟨rfl, rfl⟩
              apply NDr.pure
              · exact ⟨rfl, rfl⟩
              apply NDr.pure
              · refine NW.i64 (by omega) (by omega) ?_
                exact ⟨rfl, rfl⟩
              apply NDr.rd [0]
              · intro fH TH
                refine NP.mk (by (simp only [List.length_map, List.length_append, List.length_replicate, List.length_cons, List.length_nil, List.length_take, List.length_drop]; omega)) ?_
                rw [(ea trivial)]
                exact ⟨rfl, rfl⟩
              apply NDr.rd [0]
              · intro fH TH
                refine NG.map0N (by omega) ?_
                exact ⟨rfl, rfl⟩
              apply NDr.any
              · intro H'
                exact ⟨rfl, rfl⟩
              apply NDr.pure
              · exact ⟨rfl, rfl⟩
              apply NDr.rd [0]
              · intro fH TH
                refine NP.mk (by (simp only [List.length_map, List.length_append, List.length_replicate, List.length_cons, List.length_nil, List.length_take, List.length_drop]; omega)) ?_
                exact ⟨rfl, rfl⟩
              apply NDr.rd [0]
              · intro fH TH
                refine NG.map0N (by omega) ?_
                exact ⟨rfl, rfl⟩
              apply NDr.pure
              · refine NCall.call (b1) rfl rfl ?_
                exact ⟨rfl, rfl⟩
              apply NDr.pure
              · refine ND.yes (by omega) ?_
                exact ⟨rfl, rfl⟩
              apply NDr.pure
              · exact ⟨rfl, rfl⟩
              apply NDr.pure
              · exact ⟨rfl, rfl⟩
              refine NP.mk (by kernel_rfl) ?_
              refine NCall.atA (kd) ?_
              refine NW.i64 (by omega) (by omega) ?_
              refine NW.i64 (by omega) (by omega) ?_
              refine NP.mk (by omega) ?_
              rw [(e8 trivial)]
              refine NW.i64 (by omega) (by omega) ?_
              refine ND.yes (by omega) ?_
              refine NB.dec (fun h8 => ?_) (fun h8 => ?_)
              · have hL := hL
                rw [decide_eq_true (show mid - a' ≥ q8 by omega)] at hL
                refine NCall.atA (q1) ?_
                refine NW.i64 (by omega) (by omega) ?_
                exact Canon.mk [] rfl ⟨b' - (mid + 1), by omega, mid + 1, b', D.lim, true, apd, (pdq ltI d4 a' mid D.lim true true).toList, rfl, by omega, by omega, by omega, by omega, by simp; omega, by rw [toA]; exact bL, by rw [toA, hL], rfl, rfl⟩
              · have hL := hL
                rw [decide_eq_false (show ¬ (mid - a' ≥ q8) by omega)] at hL
                refine NCall.atA (q1) ?_
                refine NW.i64 (by omega) (by omega) ?_
                exact Canon.mk [] rfl ⟨b' - (mid + 1), by omega, mid + 1, b', D.lim, false, apd, (pdq ltI d4 a' mid D.lim true true).toList, rfl, by omega, by omega, by omega, by omega, by simp; omega, by rw [toA]; exact bL, by rw [toA, hL], rfl, rfl⟩
            · rw [show ((mid + 1 : Nat) : Int) = (mid : Int) + 1 by omega] at q2
              have hR := hright h4
              have h4S : ¬ mid + mid < a' + b' := by omega
              clear h4
              refine NW.i64 (by omega) (by omega) ?_
              refine ND.no (by omega) ?_
              refine ND.no (by omega) ?_
              refine NCall.atA (kb) ?_
              refine NW.i64 (by omega) (by omega) ?_
              rw [(el trivial)]
              refine NCall.atA (kc) ?_
              refine ND.no (by omega) ?_
              refine NP.mk (by kernel_rfl) ?_
              apply NDr.pure
              · exact ⟨rfl, rfl⟩
              apply NDr.pure
              · refine ND.yes (by omega) ?_
                exact ⟨rfl, rfl⟩
              apply NDr.pure
              · exact ⟨rfl, rfl⟩
              apply NDr.pure
              · exact ⟨rfl, rfl⟩
              apply NDr.any
              · intro H'
                exact ⟨rfl, rfl⟩
              apply NDr.pure
              · exact ⟨rfl, rfl⟩
              apply NDr.pure
              · refine NW.i64 (by omega) (by omega) ?_
                exact ⟨rfl, rfl⟩
              apply NDr.rd [0]
              · intro fH TH
                refine NP.mk (by (simp only [List.length_map, List.length_append, List.length_replicate, List.length_cons, List.length_nil, List.length_take, List.length_drop]; omega)) ?_
                rw [(ea trivial)]
                exact ⟨rfl, rfl⟩
              apply NDr.rd [0]
              · intro fH TH
                refine NG.map0N (by omega) ?_
                exact ⟨rfl, rfl⟩
              apply NDr.any
              · intro H'
                exact ⟨rfl, rfl⟩
              apply NDr.pure
              · exact ⟨rfl, rfl⟩
              apply NDr.rd [0]
              · intro fH TH
                refine NP.mk (by (simp only [List.length_map, List.length_append, List.length_replicate, List.length_cons, List.length_nil, List.length_take, List.length_drop]; omega)) ?_
                exact ⟨rfl, rfl⟩
              apply NDr.rd [0]
              · intro fH TH
                refine NG.map0N (by omega) ?_
                exact ⟨rfl, rfl⟩
              apply NDr.pure
              · refine NCall.call (b1) rfl rfl ?_
                exact ⟨rfl, rfl⟩
              apply NDr.pure
              · refine ND.yes (by omega) ?_
                exact ⟨rfl, rfl⟩
              apply NDr.pure
              · exact ⟨rfl, rfl⟩
              apply NDr.pure
              · exact ⟨rfl, rfl⟩
              refine NP.mk (by kernel_rfl) ?_
              refine NCall.atA (kd) ?_
              refine NW.i64 (by omega) (by omega) ?_
              refine NW.i64 (by omega) (by omega) ?_
              refine NP.mk (by omega) ?_
              rw [(e8 trivial)]
              refine NW.i64 (by omega) (by omega) ?_
              refine ND.no (by omega) ?_
              refine NB.dec (fun h8 => ?_) (fun h8 => ?_)
              · have hR := hR
                rw [decide_eq_true (show b' - mid ≥ q8 by omega)] at hR
                refine NW.i64 (by omega) (by omega) ?_
                refine NCall.atA (q2) ?_
                exact Canon.mk [] rfl ⟨mid - a', by omega, a', mid, D.lim, true, apd, (pdq ltI d4 (mid + 1) b' D.lim true true).toList, rfl, by omega, by omega, by omega, by omega, by simp; omega, by rw [toA]; exact bR, by rw [toA, hR], rfl, rfl⟩
              · have hR := hR
                rw [decide_eq_false (show ¬ (b' - mid ≥ q8) by omega)] at hR
                refine NW.i64 (by omega) (by omega) ?_
                refine NCall.atA (q2) ?_
                exact Canon.mk [] rfl ⟨mid - a', by omega, a', mid, D.lim, false, apd, (pdq ltI d4 (mid + 1) b' D.lim true true).toList, rfl, by omega, by omega, by omega, by omega, by simp; omega, by rw [toA]; exact bR, by rw [toA, hR], rfl, rfl⟩
          | false =>
            have u := ltF t
            have h87 : (decide (a' > 0) && !ltI D.pi.1[a' - 1]! D.pi.1[D.pivot]!) = true := by rw [hcur, y1, y2, t]; simp; omega
            obtain ⟨mi, d5, hy⟩ : ∃ mi d5, partitionEqual ltI D.pi.1 a' b' D.pivot = (mi, d5) := ⟨_, _, rfl⟩
            obtain ⟨r1, r2, r3, r4, _⟩ := Go.Sort.round_eq swoI (Go.Sort.partitionEqual_holds ltI) (by omega) hpv.1 hpv.2 (by omega) B3 (by rw [hcur, y1, y2, t]) hy
            have heq := heq hp2 h87 (by rw [hy]; exact ⟨r1, r2⟩)
            rw [hy] at ke heq
            dsimp only at ke heq
            refine NW.i64 (by omega) (by omega) ?_
            refine ND.no (by omega) ?_
            refine ND.no (by omega) ?_
            refine NCall.atA (kb) ?_
            refine NW.i64 (by omega) (by omega) ?_
            rw [(el trivial)]
            refine NCall.atA (kc) ?_
            refine ND.no (by omega) ?_
            refine NP.mk (by kernel_rfl) ?_
            apply NDr.pure
            · exact ⟨rfl, rfl⟩
            apply NDr.pure
            · refine ND.yes (by omega) ?_
              exact ⟨rfl, rfl⟩
            apply NDr.pure
            · exact ⟨rfl, rfl⟩
            apply NDr.pure
            · exact ⟨rfl, rfl⟩
            apply NDr.any
            · intro H'
              exact ⟨rfl, rfl⟩
            apply NDr.pure
            · exact ⟨rfl, rfl⟩
            apply NDr.pure
            · refine NW.i64 (by omega) (by omega) ?_
              exact ⟨rfl, rfl⟩
            apply NDr.rd [0]
            · intro fH TH
              refine NP.mk (by (simp only [List.length_map, List.length_append, List.length_replicate, List.length_cons, List.length_nil, List.length_take, List.length_drop]; omega)) ?_
              rw [(ea trivial)]
              exact ⟨rfl, rfl⟩
            apply NDr.rd [0]
            · intro fH TH
              refine NG.map0N (by omega) ?_
              exact ⟨rfl, rfl⟩
            apply NDr.any
            · intro H'
              exact ⟨rfl, rfl⟩
            apply NDr.pure
            · exact ⟨rfl, rfl⟩
            apply NDr.rd [0]
            · intro fH TH
              refine NP.mk (by (simp only [List.length_map, List.length_append, List.length_replicate, List.length_cons, List.length_nil, List.length_take, List.length_drop]; omega)) ?_
              exact ⟨rfl, rfl⟩
            apply NDr.rd [0]
            · intro fH TH
              refine NG.map0N (by omega) ?_
              exact ⟨rfl, rfl⟩
            apply NDr.pure
            · refine NCall.call (b1) rfl rfl ?_
              exact ⟨rfl, rfl⟩
            apply NDr.pure
            · refine ND.no (by omega) ?_
              exact ⟨rfl, rfl⟩
            apply NDr.pure
            · exact ⟨rfl, rfl⟩
            apply NDr.pure
            · exact ⟨rfl, rfl⟩
            refine NP.mk (by kernel_rfl) ?_
            refine NCall.atA (ke) ?_
            exact Canon.mk [] rfl ⟨b' - mi, by omega, mi, b', D.lim, false, wp, d5.toList, rfl, by omega, by omega, by omega, by omega, by simp; omega, by rw [toA]; exact r4, by rw [toA, heq], rfl, rfl⟩
    | true =>
      cases wp with
      | false =>
        obtain ⟨hd1, hdl⟩ := hf2 rfl
        have hrow : D.d1.toList.map itemA = e.map itemA := by rw [hd1]
        rw [hrow] at kc kr
        subst hdl
        have epi := hno (by simp)
        have hp2 : D.pi.2 = false := by rw [epi]
        by_cases hh : D.c.2 = .decreasing
        · have hcode : hintCode D.c.2 = 2 := by rw [hh]; rfl
          obtain ⟨e2, ep, eh⟩ := hdec hh
          rw [← e2] at kr
          have epv : True → ((b' : Int) - 1) - ((D.c.1 : Int) - (a' : Int)) = (D.pivot : Int) := fun _ => by omega
          clear ep
          have hrow3 : D.pi.1.toList.map itemA = D.d2.toList.map itemA := by rw [epi]
          rw [hrow3] at kd ke
          have hcur : D.pi.1 = (D.d2.toList).toArray := by rw [epi, toA]
          have gp : D.pivot < (D.d2.toList).length := by omega
          by_cases ha0 : a' = 0
          · have dec0 : ¬ a' > 0 := by omega
            have h87 : (decide (a' > 0) && !ltI D.pi.1[a' - 1]! D.pi.1[D.pivot]!) = false := by rw [decide_eq_false dec0]; rfl
            have hleft := hleft hp2 h87
            have hright := hright hp2 h87
            by_cases h4 : mid - a' < b' - mid
            · have hL := hleft h4
              have h4S : mid + mid < a' + b' := by omega
              clear h4
              refine NW.i64 (by omega) (by omega) ?_
              refine ND.no (by omega) ?_
              refine ND.no (by omega) ?_
              refine NCall.atA (kc) ?_
              refine ND.yes (by omega) ?_
              refine NCall.atA (kr) ?_
              refine NW.i64 (by omega) (by omega) ?_
              refine NW.i64 (by omega) (by omega) ?_
              refine NW.i64 (by omega) (by omega) ?_
              rw [(epv trivial)]
              refine NP.mk (by kernel_rfl) ?_
              apply NDr.pure
              · exact ⟨rfl, rfl⟩
              apply NDr.pure
              · refine ND.no (by omega) ?_
                exact ⟨rfl, rfl⟩
              apply NDr.pure
              · exact ⟨rfl, rfl⟩
              apply NDr.pure
              · exact ⟨rfl, rfl⟩
              refine NP.mk (by kernel_rfl) ?_
              refine NCall.atA (kd) ?_
              refine NW.i64 (by omega) (by omega) ?_
              refine NW.i64 (by omega) (by omega) ?_
              refine NP.mk (by omega) ?_
              rw [(e8 trivial)]
              refine NW.i64 (by omega) (by omega) ?_
              refine ND.yes (by omega) ?_
              refine NB.dec (fun h8 => ?_) (fun h8 => ?_)
              · have hL := hL
                rw [decide_eq_true (show mid - a' ≥ q8 by omega)] at hL
                refine NCall.atA (q1) ?_
                refine NW.i64 (by omega) (by omega) ?_
                exact Canon.mk [] rfl ⟨b' - (mid + 1), by omega, mid + 1, b', D.lim, true, apd, (pdq ltI d4 a' mid D.lim true true).toList, rfl, by omega, by omega, by omega, by omega, by simp; omega, by rw [toA]; exact bL, by rw [toA, hL], rfl, rfl⟩
              · have hL := hL
                rw [decide_eq_false (show ¬ (mid - a' ≥ q8) by omega)] at hL
                refine NCall.atA (q1) ?_
                refine NW.i64 (by omega) (by omega) ?_
                exact Canon.mk [] rfl ⟨b' - (mid + 1), by omega, mid + 1, b', D.lim, false, apd, (pdq ltI d4 a' mid D.lim true true).toList, rfl, by omega, by omega, by omega, by omega, by simp; omega, by rw [toA]; exact bL, by rw [toA, hL], rfl, rfl⟩
            · rw [show ((mid + 1 : Nat) : Int) = (mid : Int) + 1 by omega] at q2
              have hR := hright h4
              have h4S : ¬ mid + mid < a' + b' := by omega
              clear h4
              refine NW.i64 (by omega) (by omega) ?_
              refine ND.no (by omega) ?_
              refine ND.no (by omega) ?_
              refine NCall.atA (kc) ?_
              refine ND.yes (by omega) ?_
              refine NCall.atA (kr) ?_
              refine NW.i64 (by omega) (by omega) ?_
              refine NW.i64 (by omega) (by omega) ?_
              refine NW.i64 (by omega) (by omega) ?_
              rw [(epv trivial)]
              refine NP.mk (by kernel_rfl) ?_
              apply NDr.pure
              · exact ⟨rfl, rfl⟩
              apply NDr.pure
              · refine ND.no (by omega) ?_
                exact ⟨rfl, rfl⟩
              apply NDr.pure
              · exact ⟨rfl, rfl⟩
              apply NDr.pure
              · exact ⟨rfl, rfl⟩
              refine NP.mk (by kernel_rfl) ?_
              refine NCall.atA (kd) ?_
              refine NW.i64 (by omega) (by omega) ?_
              refine NW.i64 (by omega) (by omega) ?_
              refine NP.mk (by omega) ?_
              rw [(e8 trivial)]
              refine NW.i64 (by omega) (by omega) ?_
              refine ND.no (by omega) ?_
              refine NB.dec (fun h8 => ?_) (fun h8 => ?_)
              · have hR := hR
                rw [decide_eq_true (show b' - mid ≥ q8 by omega)] at hR
                refine NW.i64 (by omega) (by omega) ?_
                refine NCall.atA (q2) ?_
                exact Canon.mk [] rfl ⟨mid - a', by omega, a', mid, D.lim, true, apd, (pdq ltI d4 (mid + 1) b' D.lim true true).toList, rfl, by omega, by omega, by omega, by omega, by simp; omega, by rw [toA]; exact bR, by rw [toA, hR], rfl, rfl⟩
              · have hR := hR
                rw [decide_eq_false (show ¬ (b' - mid ≥ q8) by omega)] at hR
                refine NW.i64 (by omega) (by omega) ?_
                refine NCall.atA (q2) ?_
                exact Canon.mk [] rfl ⟨mid - a', by omega, a', mid, D.lim, false, apd, (pdq ltI d4 (mid + 1) b' D.lim true true).toList, rfl, by omega, by omega, by omega, by omega, by simp; omega, by rw [toA]; exact bR, by rw [toA, hR], rfl, rfl⟩
          · have ga : a' - 1 < (D.d2.toList).length := by omega
            have ea : True → Int.toNat ((a' : Int) - 1) = a' - 1 := fun _ => by omega
            have b1 := item_compare_walk (D.d2.toList)[a' - 1] (D.d2.toList)[D.pivot]
            have y1 := getA ga
            have y2 := getA gp
            cases t : ltI (D.d2.toList)[a' - 1] (D.d2.toList)[D.pivot] with
            | true =>
              have u := ltT t
              have h87 : (decide (a' > 0) && !ltI D.pi.1[a' - 1]! D.pi.1[D.pivot]!) = false := by rw [hcur, y1, y2, t]; simp
              have hleft := hleft hp2 h87
              have hright := hright hp2 h87
              by_cases h4 : mid - a' < b' - mid
              · have hL := hleft h4
                have h4S : mid + mid < a' + b' := by omega
                clear h4
                refine NW.i64 (by omega) (by omega) ?_
                refine ND.no (by omega) ?_
                refine ND.no (by omega) ?_
                refine NCall.atA (kc) ?_
                refine ND.yes (by omega) ?_
                refine NCall.atA (kr) ?_
                refine NW.i64 (by omega) (by omega) ?_
                refine NW.i64 (by omega) (by omega) ?_
                refine NW.i64 (by omega) (by omega) ?_
                rw [(epv trivial)]
                refine NP.mk (by kernel_rfl) ?_
                apply NDr.pure
                · exact ⟨rfl, rfl⟩
                apply NDr.pure
                · refine ND.yes (by omega) ?_
                  exact ⟨rfl, rfl⟩
                apply NDr.pure
                · exact ⟨rfl, rfl⟩
                apply NDr.pure
                · exact ⟨rfl, rfl⟩
                apply NDr.any
                · intro H'
                  exact ⟨rfl, rfl⟩
                apply NDr.pure
                · exact ⟨rfl, rfl⟩
                apply NDr.pure
                · refine NW.i64 (by omega) (by omega) ?_
                  exact ⟨rfl, rfl⟩
                apply NDr.rd [0]
                · intro fH TH
                  refine NP.mk (by (simp only [List.length_map, List.length_append, List.length_replicate, List.length_cons, List.length_nil, List.length_take, List.length_drop]; omega)) ?_
                  rw [(ea trivial)]
                  exact ⟨rfl, rfl⟩
                apply NDr.rd [0]
                · intro fH TH
                  refine NG.map0N (by omega) ?_
                  exact ⟨rfl, rfl⟩
                apply NDr.any
                · intro H'
                  exact ⟨rfl, rfl⟩
                apply NDr.pure
                · exact ⟨rfl, rfl⟩
                apply NDr.rd [0]
                · intro fH TH
                  refine NP.mk (by (simp only [List.length_map, List.length_append, List.length_replicate, List.length_cons, List.length_nil, List.length_take, List.length_drop]; omega)) ?_
                  exact ⟨rfl, rfl⟩
                apply NDr.rd [0]
                · intro fH TH
                  refine NG.map0N (by omega) ?_
                  exact ⟨rfl, rfl⟩
                apply NDr.pure
                · refine NCall.call (b1) rfl rfl ?_
                  exact ⟨rfl, rfl⟩
                apply NDr.pure
                · refine ND.yes (by omega) ?_
                  exact ⟨rfl, rfl⟩
                apply NDr.pure
                · exact ⟨rfl, rfl⟩
                apply NDr.pure
                · exact ⟨rfl, rfl⟩
                refine NP.mk (by kernel_rfl) ?_
                refine NCall.atA (kd) ?_
                refine NW.i64 (by omega) (by omega) ?_
                refine NW.i64 (by omega) (by omega) ?_
                refine NP.mk (by omega) ?_
                rw [(e8 trivial)]
                refine NW.i64 (by omega) (by omega) ?_
                refine ND.yes (by omega) ?_
                refine NB.dec (fun h8 => ?_) (fun h8 => ?_)
                · have hL := hL
                  rw [decide_eq_true (show mid - a' ≥ q8 by omega)] at hL
                  refine NCall.atA (q1) ?_
                  refine NW.i64 (by omega) (by omega) ?_
                  exact Canon.mk [] rfl ⟨b' - (mid + 1), by omega, mid + 1, b', D.lim, true, apd, (pdq ltI d4 a' mid D.lim true true).toList, rfl, by omega, by omega, by omega, by omega, by simp; omega, by rw [toA]; exact bL, by rw [toA, hL], rfl, rfl⟩
                · have hL := hL
                  rw [decide_eq_false (show ¬ (mid - a' ≥ q8) by omega)] at hL
                  refine NCall.atA (q1) ?_
                  refine NW.i64 (by omega) (by omega) ?_
                  exact Canon.mk [] rfl ⟨b' - (mid + 1), by omega, mid + 1, b', D.lim, false, apd, (pdq ltI d4 a' mid D.lim true true).toList, rfl, by omega, by omega, by omega, by omega, by simp; omega, by rw [toA]; exact bL, by rw [toA, hL], rfl, rfl⟩
              · rw [show ((mid + 1 : Nat) : Int) = (mid : Int) + 1 by omega] at q2
                have hR := hright h4
                have h4S : ¬ mid + mid < a' + b' := by omega
                clear h4
                refine NW.i64 (by omega) (by omega) ?_
                refine ND.no (by omega) ?_
                refine ND.no (by omega) ?_
                refine NCall.atA (kc) ?_
                refine ND.yes (by omega) ?_
                refine NCall.atA (kr) ?_
                refine NW.i64 (by omega) (by omega) ?_
                refine NW.i64 (by omega) (by omega) ?_
                refine NW.i64 (by omega) (by omega) ?_
                rw [(epv trivial)]
                refine NP.mk (by kernel_rfl) ?_
                apply NDr.pure
                · exact ⟨rfl, rfl⟩
                apply NDr.pure
                · refine ND.yes (by omega) ?_
                  exact ⟨rfl, rfl⟩
                apply NDr.pure
                · exact ⟨rfl, rfl⟩
                apply NDr.pure
                · exact ⟨rfl, rfl⟩
                apply NDr.any
                · intro H'
                  exact ⟨rfl, rfl⟩
                apply NDr.pure
                · exact ⟨rfl, rfl⟩
                apply NDr.pure
                · refine NW.i64 (by omega) (by omega) ?_
                  exact ⟨rfl, rfl⟩
                apply NDr.rd [0]
                · intro fH TH
                  refine NP.mk (by (simp only [List.length_map, List.length_append, List.length_replicate, List.length_cons, List.length_nil, List.length_take, List.length_drop]; omega)) ?_
                  rw [(ea trivial)]
                  exact ⟨rfl, rfl⟩
                apply NDr.rd [0]
                · intro fH TH
                  refine NG.map0N (by omega) ?_
                  exact ⟨rfl, rfl⟩
                apply NDr.any
                · intro H'
                  exact ⟨rfl, rfl⟩
                apply NDr.pure
                · exact ⟨rfl, rfl⟩
                apply NDr.rd [0]
                · intro fH TH
                  refine NP.mk (by (simp only [List.length_map, List.length_append, List.length_replicate, List.length_cons, List.length_nil, List.length_take, List.length_drop]; omega)) ?_
                  exact ⟨rfl, rfl⟩
                apply NDr.rd [0]
                · intro fH TH
                  refine NG.map0N (by omega) ?_
                  exact ⟨rfl, rfl⟩
                apply NDr.pure
                · refine NCall.call (b1) rfl rfl ?_
                  exact ⟨rfl, rfl⟩
                apply NDr.pure
                · refine ND.yes (by omega) ?_
                  exact ⟨rfl, rfl⟩
                apply NDr.pure
                · exact ⟨rfl, rfl⟩
                apply NDr.pure
                · exact ⟨rfl, rfl⟩
                refine NP.mk (by kernel_rfl) ?_
                refine NCall.atA (kd) ?_
                refine NW.i64 (by omega) (by omega) ?_
                refine NW.i64 (by omega) (by omega) ?_
                refine NP.mk (by omega) ?_
                rw [(e8 trivial)]
                refine NW.i64 (by omega) (by omega) ?_
                refine ND.no (by omega) ?_
                refine NB.dec (fun h8 => ?_) (fun h8 => ?_)
                · have hR := hR
                  rw [decide_eq_true (show b' - mid ≥ q8 by omega)] at hR
                  refine NW.i64 (by omega) (by omega) ?_
                  refine NCall.atA (q2) ?_
                  exact Canon.mk [] rfl ⟨mid - a', by omega, a', mid, D.lim, true, apd, (pdq ltI d4 (mid + 1) b' D.lim true true).toList, rfl, by omega, by omega, by omega, by omega, by simp; omega, by rw [toA]; exact bR, by rw [toA, hR], rfl, rfl⟩
                · have hR := hR
                  rw [decide_eq_false (show ¬ (b' - mid ≥ q8) by omega)] at hR
                  refine NW.i64 (by omega) (by omega) ?_
                  refine NCall.atA (q2) ?_
                  exact Canon.mk [] rfl ⟨mid - a', by omega, a', mid, D.lim, false, apd, (pdq ltI d4 (mid + 1) b' D.lim true true).toList, rfl, by omega, by omega, by omega, by omega, by simp; omega, by rw [toA]; exact bR, by rw [toA, hR], rfl, rfl⟩
            | false =>
              have u := ltF t
              have h87 : (decide (a' > 0) && !ltI D.pi.1[a' - 1]! D.pi.1[D.pivot]!) = true := by rw [hcur, y1, y2, t]; simp; omega
              obtain ⟨mi, d5, hy⟩ : ∃ mi d5, partitionEqual ltI D.pi.1 a' b' D.pivot = (mi, d5) := ⟨_, _, rfl⟩
              obtain ⟨r1, r2, r3, r4, _⟩ := Go.Sort.round_eq swoI (Go.Sort.partitionEqual_holds ltI) (by omega) hpv.1 hpv.2 (by omega) B3 (by rw [hcur, y1, y2, t]) hy
              have heq := heq hp2 h87 (by rw [hy]; exact ⟨r1, r2⟩)
              rw [hy] at ke heq
              dsimp only at ke heq
              refine NW.i64 (by omega) (by omega) ?_
              refine ND.no (by omega) ?_
              refine ND.no (by omega) ?_
              refine NCall.atA (kc) ?_
              refine ND.yes (by omega) ?_
              refine NCall.atA (kr) ?_
              refine NW.i64 (by omega) (by omega) ?_
              refine NW.i64 (by omega) (by omega) ?_
              refine NW.i64 (by omega) (by omega) ?_
              rw [(epv trivial)]
              refine NP.mk (by kernel_rfl) ?_
              apply NDr.pure
              · exact ⟨rfl, rfl⟩
              apply NDr.pure
              · refine ND.yes (by omega) ?_
                exact ⟨rfl, rfl⟩
              apply NDr.pure
              · exact ⟨rfl, rfl⟩
              apply NDr.pure
              · exact ⟨rfl, rfl⟩
              apply NDr.any
              · intro H'
                exact ⟨rfl, rfl⟩
              apply NDr.pure
              · exact ⟨rfl, rfl⟩
              apply NDr.pure
              · refine NW.i64 (by omega) (by omega) ?_
                exact ⟨rfl, rfl⟩
              apply NDr.rd [0]
              · intro fH TH
                refine NP.mk (by (simp only [List.length_map, List.length_append, List.length_replicate, List.length_cons, List.length_nil, List.length_take, List.length_drop]; omega)) ?_
                rw [(ea trivial)]
                exact ⟨rfl, rfl⟩
              apply NDr.rd [0]
              · intro fH TH
                refine NG.map0N (by omega) ?_
                exact ⟨rfl, rfl⟩
              apply NDr.any
              · intro H'
                exact ⟨rfl, rfl⟩
              apply NDr.pure
              · exact ⟨rfl, rfl⟩
              apply NDr.rd [0]
              · intro fH TH
                refine NP.mk (by (simp only [List.length_map, List.length_append, List.length_replicate, List.length_cons, List.length_nil, List.length_take, List.length_drop]; omega)) ?_
                exact ⟨rfl, rfl⟩
              apply NDr.rd [0]
              · intro fH TH
                refine NG.map0N (by omega) ?_
                exact ⟨rfl, rfl⟩
              apply NDr.pure
              · refine NCall.call (b1) rfl rfl ?_
                exact ⟨rfl, rfl⟩
              apply NDr.pure
              · refine ND.no (by omega) ?_
                exact ⟨rfl, rfl⟩
              apply NDr.pure
              · exact ⟨rfl, rfl⟩
              apply NDr.pure
              · exact ⟨rfl, rfl⟩
              refine NP.mk (by kernel_rfl) ?_
              refine NCall.atA (ke) ?_
              exact Canon.mk [] rfl ⟨b' - mi, by omega, mi, b', D.lim, true, false, d5.toList, rfl, by omega, by omega, by omega, by omega, by simp; omega, by rw [toA]; exact r4, by rw [toA, heq], rfl, rfl⟩
        · have hcode : ¬ hintCode D.c.2 = 2 := by cases h : D.c.2 with | decreasing => exact absurd h hh | increasing => simp [hintCode] | unknown => simp [hintCode]
          obtain ⟨e2, ep, eh⟩ := hnot hh
          rw [← ep] at kc
          have hrow3 : D.pi.1.toList.map itemA = e.map itemA := by rw [epi, e2, hd1]
          rw [hrow3] at kd ke
          have hcur : D.pi.1 = (e).toArray := by rw [epi, e2, hd1]
          have gp : D.pivot < (e).length := by omega
          by_cases ha0 : a' = 0
          · have dec0 : ¬ a' > 0 := by omega
            have h87 : (decide (a' > 0) && !ltI D.pi.1[a' - 1]! D.pi.1[D.pivot]!) = false := by rw [decide_eq_false dec0]; rfl
            have hleft := hleft hp2 h87
            have hright := hright hp2 h87
            by_cases h4 : mid - a' < b' - mid
            · have hL := hleft h4
              have h4S : mid + mid < a' + b' := by omega
              clear h4
              refine NW.i64 (by omega) (by omega) ?_
              refine ND.no (by omega) ?_
              refine ND.no (by omega) ?_
              refine NCall.atA (kc) ?_
              refine ND.no (by omega) ?_
              refine NP.mk (by kernel_rfl) ?_
              apply NDr.pure
              · exact ⟨rfl, rfl⟩
              apply NDr.pure
              · refine ND.no (by omega) ?_
                exact ⟨rfl, rfl⟩
              apply NDr.pure
              · exact ⟨rfl, rfl⟩
              apply NDr.pure
              · exact ⟨rfl, rfl⟩
              refine NP.mk (by kernel_rfl) ?_
              refine NCall.atA (kd) ?_
              refine NW.i64 (by omega) (by omega) ?_
              refine NW.i64 (by omega) (by omega) ?_
              refine NP.mk (by omega) ?_
              rw [(e8 trivial)]
              refine NW.i64 (by omega) (by omega) ?_
              refine ND.yes (by omega) ?_
              refine NB.dec (fun h8 => ?_) (fun h8 => ?_)
              · have hL := hL
                rw [decide_eq_true (show mid - a' ≥ q8 by omega)] at hL
                refine NCall.atA (q1) ?_
                refine NW.i64 (by omega) (by omega) ?_
                exact Canon.mk [] rfl ⟨b' - (mid + 1), by omega, mid + 1, b', D.lim, true, apd, (pdq ltI d4 a' mid D.lim true true).toList, rfl, by omega, by omega, by omega, by omega, by simp; omega, by rw [toA]; exact bL, by rw [toA, hL], rfl, rfl⟩
              · have hL := hL
                rw [decide_eq_false (show ¬ (mid - a' ≥ q8) by omega)] at hL
                refine NCall.atA (q1) ?_
                refine NW.i64 (by omega) (by omega) ?_
                exact Canon.mk [] rfl ⟨b' - (mid + 1), by omega, mid + 1, b', D.lim, false, apd, (pdq ltI d4 a' mid D.lim true true).toList, rfl, by omega, by omega, by omega, by omega, by simp; omega, by rw [toA]; exact bL, by rw [toA, hL], rfl, rfl⟩
            · rw [show ((mid + 1 : Nat) : Int) = (mid : Int) + 1 by omega] at q2
              have hR := hright h4
              have h4S : ¬ mid + mid < a' + b' := by omega
              clear h4
              refine NW.i64 (by omega) (by omega) ?_
              refine ND.no (by omega) ?_
              refine ND.no (by omega) ?_
              refine NCall.atA (kc) ?_
              refine ND.no (by omega) ?_
              refine NP.mk (by kernel_rfl) ?_
              apply NDr.pure
              · exact ⟨rfl, rfl⟩
              apply NDr.pure
              · refine ND.no (by omega) ?_
                exact ⟨rfl, rfl⟩
              apply NDr.pure
              · exact ⟨rfl, rfl⟩
              apply NDr.pure
              · exact ⟨rfl, rfl⟩
              refine NP.mk (by kernel_rfl) ?_
              refine NCall.atA (kd) ?_
              refine NW.i64 (by omega) (by omega) ?_
              refine NW.i64 (by omega) (by omega) ?_
              refine NP.mk (by omega) ?_
              rw [(e8 trivial)]
              refine NW.i64 (by omega) (by omega) ?_
              refine ND.no (by omega) ?_
              refine NB.dec (fun h8 => ?_) (fun h8 => ?_)
              · have hR := hR
                rw [decide_eq_true (show b' - mid ≥ q8 by omega)] at hR
                refine NW.i64 (by omega) (by omega) ?_
                refine NCall.atA (q2) ?_
                exact Canon.mk [] rfl ⟨mid - a', by omega, a', mid, D.lim, true, apd, (pdq ltI d4 (mid + 1) b' D.lim true true).toList, rfl, by omega, by omega, by omega, by omega, by simp; omega, by rw [toA]; exact bR, by rw [toA, hR], rfl, rfl⟩
              · have hR := hR
                rw [decide_eq_false (show ¬ (b' - mid ≥ q8) by omega)] at hR
                refine NW.i64 (by omega) (by omega) ?_
                refine NCall.atA (q2) ?_
                exact Canon.mk [] rfl ⟨mid - a', by omega, a', mid, D.lim, false, apd, (pdq ltI d4 (mid + 1) b' D.lim true true).toList, rfl, by omega, by omega, by omega, by omega, by simp; omega, by rw [toA]; exact bR, by rw [toA, hR], rfl, rfl⟩
          · have ga : a' - 1 < (e).length := by omega
            have ea : True → Int.toNat ((a' : Int) - 1) = a' - 1 := fun _ => by omega
            have b1 := item_compare_walk (e)[a' - 1] (e)[D.pivot]
            have y1 := getA ga
            have y2 := getA gp
            cases t : ltI (e)[a' - 1] (e)[D.pivot] with
            | true =>
              have u := ltT t
              have h87 : (decide (a' > 0) && !ltI D.pi.1[a' - 1]! D.pi.1[D.pivot]!) = false := by rw [hcur, y1, y2, t]; simp
              have hleft := hleft hp2 h87
              have hright := hright hp2 h87
              by_cases h4 : mid - a' < b' - mid
              · have hL := hleft h4
                have h4S : mid + mid < a' + b' := by omega
                clear h4
                refine NW.i64 (by omega) (by omega) ?_
                refine ND.no (by omega) ?_
                refine ND.no (by omega) ?_
                refine NCall.atA (kc) ?_
                refine ND.no (by omega) ?_
                refine NP.mk (by kernel_rfl) ?_
                apply NDr.pure
                · exact ⟨rfl, rfl⟩
                apply NDr.pure
                · refine ND.yes (by omega) ?_
                  exact ⟨rfl, rfl⟩
                apply NDr.pure
                · exact ⟨rfl, rfl⟩
                apply NDr.pure
                · exact ⟨rfl, rfl⟩
                apply NDr.any
                · intro H'
                  exact ⟨rfl, rfl⟩
                apply NDr.pure
                · exact ⟨rfl, rfl⟩
                apply NDr.pure
                · refine NW.i64 (by omega) (by omega) ?_
                  exact ⟨rfl, rfl⟩
                apply NDr.rd [0]
                · intro fH TH
                  refine NP.mk (by (simp only [List.length_map, List.length_append, List.length_replicate, List.length_cons, List.length_nil, List.length_take, List.length_drop]; omega)) ?_
                  rw [(ea trivial)]
                  exact ⟨rfl, rfl⟩
                apply NDr.rd [0]
                · intro fH TH
                  refine NG.map0N (by omega) ?_
                  exact ⟨rfl, rfl⟩
                apply NDr.any
                · intro H'
                  exact ⟨rfl, rfl⟩
                apply NDr.pure
                · exact ⟨rfl, rfl⟩
                apply NDr.rd [0]
                · intro fH TH
                  refine NP.mk (by (simp only [List.length_map, List.length_append, List.length_replicate, List.length_cons, List.length_nil, List.length_take, List.length_drop]; omega)) ?_
                  exact ⟨rfl, rfl⟩
                apply NDr.rd [0]
                · intro fH TH
                  refine NG.map0N (by omega) ?_
                  exact ⟨rfl, rfl⟩
                apply NDr.pure
                · refine NCall.call (b1) rfl rfl ?_
                  exact ⟨rfl, rfl⟩
                apply NDr.pure
                · refine ND.yes (by omega) ?_
                  exact ⟨rfl, rfl⟩
                apply NDr.pure
                · exact ⟨rfl, rfl⟩
                apply NDr.pure
                · exact ⟨rfl, rfl⟩
                refine NP.mk (by kernel_rfl) ?_
                refine NCall.atA (kd) ?_
                refine NW.i64 (by omega) (by omega) ?_
                refine NW.i64 (by omega) (by omega) ?_
                refine NP.mk (by omega) ?_
                rw [(e8 trivial)]
                refine NW.i64 (by omega) (by omega) ?_
                refine ND.yes (by omega) ?_
                refine NB.dec (fun h8 => ?_) (fun h8 => ?_)
                · have hL := hL
                  rw [decide_eq_true (show mid - a' ≥ q8 by omega)] at hL
                  refine NCall.atA (q1) ?_
                  refine NW.i64 (by omega) (by omega) ?_
                  exact Canon.mk [] rfl ⟨b' - (mid + 1), by omega, mid + 1, b', D.lim, true, apd, (pdq ltI d4 a' mid D.lim true true).toList, rfl, by omega, by omega, by omega, by omega, by simp; omega, by rw [toA]; exact bL, by rw [toA, hL], rfl, rfl⟩
                · have hL := hL
                  rw [decide_eq_false (show ¬ (mid - a' ≥ q8) by omega)] at hL
                  refine NCall.atA (q1) ?_
                  refine NW.i64 (by omega) (by omega) ?_
                  exact Canon.mk [] rfl ⟨b' - (mid + 1), by omega, mid + 1, b', D.lim, false, apd, (pdq ltI d4 a' mid D.lim true true).toList, rfl, by omega, by omega, by omega, by omega, by simp; omega, by rw [toA]; exact bL, by rw [toA, hL], rfl, rfl⟩
              · rw [show ((mid + 1 : Nat) : Int) = (mid : Int) + 1 by omega] at q2
                have hR := hright h4
                have h4S : ¬ mid + mid < a' + b' := by omega
                clear h4
                refine NW.i64 (by omega) (by omega) ?_
                refine ND.no (by omega) ?_
                refine ND.no (by omega) ?_
                refine NCall.atA (kc) ?_
                refine ND.no (by omega) ?_
                refine NP.mk (by kernel_rfl) ?_
                apply NDr.pure
                · exact ⟨rfl, rfl⟩
                apply NDr.pure
                · refine ND.yes (by omega) ?_
                  exact ⟨rfl, rfl⟩
                apply NDr.pure
                · exact ⟨rfl, rfl⟩
                apply NDr.pure
                · exact ⟨rfl, rfl⟩
                apply NDr.any
                · intro H'
                  exact ⟨rfl, rfl⟩
                apply NDr.pure
                · exact ⟨rfl, rfl⟩
                apply NDr.pure
                · refine NW.i64 (by omega) (by omega) ?_
                  exact ⟨rfl, rfl⟩
                apply NDr.rd [0]
                · intro fH TH
                  refine NP.mk (by (simp only [List.length_map, List.length_append, List.length_replicate, List.length_cons, List.length_nil, List.length_take, List.length_drop]; omega)) ?_
                  rw [(ea trivial)]
                  exact ⟨rfl, rfl⟩
                apply NDr.rd [0]
                · intro fH TH
                  refine NG.map0N (by omega) ?_
                  exact ⟨rfl, rfl⟩
                apply NDr.any
                · intro H'
                  exact ⟨rfl, rfl⟩
                apply NDr.pure
                · exact ⟨rfl, rfl⟩
                apply NDr.rd [0]
                · intro fH TH
                  refine NP.mk (by (simp only [List.length_map, List.length_append, List.length_replicate, List.length_cons, List.length_nil, List.length_take, List.length_drop]; omega)) ?_
                  exact ⟨rfl, rfl⟩
                apply NDr.rd [0]
                · intro fH TH
                  refine NG.map0N (by omega) ?_
                  exact ⟨rfl, rfl⟩
                apply NDr.pure
                · refine NCall.call (b1) rfl rfl ?_
                  exact ⟨rfl, rfl⟩
                apply NDr.pure
                · refine ND.yes (by omega) ?_
                  exact ⟨rfl, rfl⟩
                apply NDr.pure
                · exact ⟨rfl, rfl⟩
                apply NDr.pure
                · exact ⟨rfl, rfl⟩
                refine NP.mk (by kernel_rfl) ?_
                refine NCall.atA (kd) ?_
                refine NW.i64 (by omega) (by omega) ?_
                refine NW.i64 (by omega) (by omega) ?_
                refine NP.mk (by omega) ?_
                rw [(e8 trivial)]
                refine NW.i64 (by omega) (by omega) ?_
                refine ND.no (by omega) ?_
                refine NB.dec (fun h8 => ?_) (fun h8 => ?_)
                · have hR := hR
                  rw [decide_eq_true (show b' - mid ≥ q8 by omega)] at hR
                  refine NW.i64 (by omega) (by omega) ?_
                  refine NCall.atA (q2) ?_
                  exact Canon.mk [] rfl ⟨mid - a', by omega, a', mid, D.lim, true, apd, (pdq ltI d4 (mid + 1) b' D.lim true true).toList, rfl, by omega, by omega, by omega, by omega, by simp; omega, by rw [toA]; exact bR, by rw [toA, hR], rfl, rfl⟩
                · have hR := hR
                  rw [decide_eq_false (show ¬ (b' - mid ≥ q8) by omega)] at hR
                  refine NW.i64 (by omega) (by omega) ?_
                  refine NCall.atA (q2) ?_
                  exact Canon.mk [] rfl ⟨mid - a', by omega, a', mid, D.lim, false, apd, (pdq ltI d4 (mid + 1) b' D.lim true true).toList, rfl, by omega, by omega, by omega, by omega, by simp; omega, by rw [toA]; exact bR, by rw [toA, hR], rfl, rfl⟩
            | false =>
              have u := ltF t
              have h87 : (decide (a' > 0) && !ltI D.pi.1[a' - 1]! D.pi.1[D.pivot]!) = true := by rw [hcur, y1, y2, t]; simp; omega
              obtain ⟨mi, d5, hy⟩ : ∃ mi d5, partitionEqual ltI D.pi.1 a' b' D.pivot = (mi, d5) := ⟨_, _, rfl⟩
              obtain ⟨r1, r2, r3, r4, _⟩ := Go.Sort.round_eq swoI (Go.Sort.partitionEqual_holds ltI) (by omega) hpv.1 hpv.2 (by omega) B3 (by rw [hcur, y1, y2, t]) hy
              have heq := heq hp2 h87 (by rw [hy]; exact ⟨r1, r2⟩)
              rw [hy] at ke heq
              dsimp only at ke heq
              refine NW.i64 (by omega) (by omega) ?_
              refine ND.no (by omega) ?_
              refine ND.no (by omega) ?_
              refine NCall.atA (kc) ?_
              refine ND.no (by omega) ?_
              refine NP.mk (by kernel_rfl) ?_
              apply NDr.pure
              · exact ⟨rfl, rfl⟩
              apply NDr.pure
              · refine ND.yes (by omega) ?_
                exact ⟨rfl, rfl⟩
              apply NDr.pure
              · exact ⟨rfl, rfl⟩
              apply NDr.pure
              · exact ⟨rfl, rfl⟩
              apply NDr.any
              · intro H'
                exact ⟨rfl, rfl⟩
              apply NDr.pure
              · exact ⟨rfl, rfl⟩
              apply NDr.pure
              · refine NW.i64 (by omega) (by omega) ?_
                exact ⟨rfl, rfl⟩
              apply NDr.rd [0]
              · intro fH TH
                refine NP.mk (by (simp only [List.length_map, List.length_append, List.length_replicate, List.length_cons, List.length_nil, List.length_take, List.length_drop]; omega)) ?_
                rw [(ea trivial)]
                exact ⟨rfl, rfl⟩
              apply NDr.rd [0]
              · intro fH TH
                refine NG.map0N (by omega) ?_
                exact ⟨rfl, rfl⟩
              apply NDr.any
              · intro H'
                exact ⟨rfl, rfl⟩
              apply NDr.pure
              · exact ⟨rfl, rfl⟩
              apply NDr.rd [0]
              · intro fH TH
                refine NP.mk (by (simp only [List.length_map, List.length_append, List.length_replicate, List.length_cons, List.length_nil, List.length_take, List.length_drop]; omega)) ?_
                exact ⟨rfl, rfl⟩
              apply NDr.rd [0]
              · intro fH TH
                refine NG.map0N (by omega) ?_
                exact ⟨rfl, rfl⟩
              apply NDr.pure
              · refine NCall.call (b1) rfl rfl ?_
                exact ⟨rfl, rfl⟩
              apply NDr.pure
              · refine ND.no (by omega) ?_
                exact ⟨rfl, rfl⟩
              apply NDr.pure
              · exact ⟨rfl, rfl⟩
              apply NDr.pure
              · exact ⟨rfl, rfl⟩
              refine NP.mk (by kernel_rfl) ?_
              refine NCall.atA (ke) ?_
              exact Canon.mk [] rfl ⟨b' - mi, by omega, mi, b', D.lim, true, false, d5.toList, rfl, by omega, by omega, by omega, by omega, by simp; omega, by rw [toA]; exact r4, by rw [toA, heq], rfl, rfl⟩
      | true =>
        obtain ⟨hd1, hdl⟩ := hf2 rfl
        have hrow : D.d1.toList.map itemA = e.map itemA := by rw [hd1]
        rw [hrow] at kc kr
        subst hdl
        cases hh : D.c.2 with
        | decreasing =>
          rw [hh] at kc
          rw [show hintCode .decreasing = 2 from rfl] at kc
          obtain ⟨e2, ep, eh⟩ := hdec hh
          rw [← e2] at kr
          have epv : True → ((b' : Int) - 1) - ((D.c.1 : Int) - (a' : Int)) = (D.pivot : Int) := fun _ => by omega
          clear ep
          have epi := hyes (by rw [eh]; rfl)
          rw [← epi] at kp
          cases hp2 : D.pi.2 with
          | true =>
            rw [hp2] at kp
            rw [hdone hp2]
            refine NW.i64 (by omega) (by omega) ?_
            refine ND.no (by omega) ?_
            refine ND.no (by omega) ?_
            refine NCall.atA (kc) ?_
            refine ND.yes (by omega) ?_
            refine NCall.atA (kr) ?_
            refine NW.i64 (by omega) (by omega) ?_
            refine NW.i64 (by omega) (by omega) ?_
            refine NW.i64 (by omega) (by omega) ?_
            rw [(epv trivial)]
            refine ND.yes (by omega) ?_
            refine NCall.atA (kp) ?_
            exact NRet.mk [] rfl ⟨.refl _, rfl⟩
          | false =>
            rw [hp2] at kp
            have hcur : D.pi.1 = (D.pi.1.toList).toArray := (toA _).symm
            have gp : D.pivot < (D.pi.1.toList).length := by omega
            by_cases ha0 : a' = 0
            · have dec0 : ¬ a' > 0 := by omega
              have h87 : (decide (a' > 0) && !ltI D.pi.1[a' - 1]! D.pi.1[D.pivot]!) = false := by rw [decide_eq_false dec0]; rfl
              have hleft := hleft hp2 h87
              have hright := hright hp2 h87
              by_cases h4 : mid - a' < b' - mid
              · have hL := hleft h4
                have h4S : mid + mid < a' + b' := by omega
                clear h4
                refine NW.i64 (by omega) (by omega) ?_
                refine ND.no (by omega) ?_
                refine ND.no (by omega) ?_
                refine NCall.atA (kc) ?_
                refine ND.yes (by omega) ?_
                refine NCall.atA (kr) ?_
                refine NW.i64 (by omega) (by omega) ?_
                refine NW.i64 (by omega) (by omega) ?_
                refine NW.i64 (by omega) (by omega) ?_
                rw [(epv trivial)]
                refine ND.yes (by omega) ?_
                refine NCall.atA (kp) ?_
                refine NP.mk (by kernel_rfl) ?_
                apply NDr.pure
                · exact ⟨rfl, rfl⟩
                apply NDr.pure
                · refine ND.no (by omega) ?_
                  exact ⟨rfl, rfl⟩
                apply NDr.pure
                · exact ⟨rfl, rfl⟩
                apply NDr.pure
                · exact ⟨rfl, rfl⟩
                refine NP.mk (by kernel_rfl) ?_
                refine NCall.atA (kd) ?_
                refine NW.i64 (by omega) (by omega) ?_
                refine NW.i64 (by omega) (by omega) ?_
                refine NP.mk (by omega) ?_
                rw [(e8 trivial)]
                refine NW.i64 (by omega) (by omega) ?_
                refine ND.yes (by omega) ?_
                refine NB.dec (fun h8 => ?_) (fun h8 => ?_)
                · have hL := hL
                  rw [decide_eq_true (show mid - a' ≥ q8 by omega)] at hL
                  refine NCall.atA (q1) ?_
                  refine NW.i64 (by omega) (by omega) ?_
                  exact Canon.mk [] rfl ⟨b' - (mid + 1), by omega, mid + 1, b', D.lim, true, apd, (pdq ltI d4 a' mid D.lim true true).toList, rfl, by omega, by omega, by omega, by omega, by simp; omega, by rw [toA]; exact bL, by rw [toA, hL], rfl, rfl⟩
                · have hL := hL
                  rw [decide_eq_false (show ¬ (mid - a' ≥ q8) by omega)] at hL
                  refine NCall.atA (q1) ?_
                  refine NW.i64 (by omega) (by omega) ?_
                  exact Canon.mk [] rfl ⟨b' - (mid + 1), by omega, mid + 1, b', D.lim, false, apd, (pdq ltI d4 a' mid D.lim true true).toList, rfl, by omega, by omega, by omega, by omega, by simp; omega, by rw [toA]; exact bL, by rw [toA, hL], rfl, rfl⟩
              · rw [show ((mid + 1 : Nat) : Int) = (mid : Int) + 1 by omega] at q2
                have hR := hright h4
                have h4S : ¬ mid + mid < a' + b' := by omega
                clear h4
                refine NW.i64 (by omega) (by omega) ?_
                refine ND.no (by omega) ?_
                refine ND.no (by omega) ?_
                refine NCall.atA (kc) ?_
                refine ND.yes (by omega) ?_
                refine NCall.atA (kr) ?_
                refine NW.i64 (by omega) (by omega) ?_
                refine NW.i64 (by omega) (by omega) ?_
                refine NW.i64 (by omega) (by omega) ?_
                rw [(epv trivial)]
                refine ND.yes (by omega) ?_
                refine NCall.atA (kp) ?_
                refine NP.mk (by kernel_rfl) ?_
                apply NDr.pure
                · exact ⟨rfl, rfl⟩
                apply NDr.pure
                · refine ND.no (by omega) ?_
                  exact ⟨rfl, rfl⟩
                apply NDr.pure
                · exact ⟨rfl, rfl⟩
                apply NDr.pure
                · exact ⟨rfl, rfl⟩
                refine NP.mk (by kernel_rfl) ?_
                refine NCall.atA (kd) ?_
                refine NW.i64 (by omega) (by omega) ?_
                refine NW.i64 (by omega) (by omega) ?_
                refine NP.mk (by omega) ?_
                rw [(e8 trivial)]
                refine NW.i64 (by omega) (by omega) ?_
                refine ND.no (by omega) ?_
                refine NB.dec (fun h8 => ?_) (fun h8 => ?_)
                · have hR := hR
                  rw [decide_eq_true (show b' - mid ≥ q8 by omega)] at hR
                  refine NW.i64 (by omega) (by omega) ?_
                  refine NCall.atA (q2) ?_
                  exact Canon.mk [] rfl ⟨mid - a', by omega, a', mid, D.lim, true, apd, (pdq ltI d4 (mid + 1) b' D.lim true true).toList, rfl, by omega, by omega, by omega, by omega, by simp; omega, by rw [toA]; exact bR, by rw [toA, hR], rfl, rfl⟩
                · have hR := hR
                  rw [decide_eq_false (show ¬ (b' - mid ≥ q8) by omega)] at hR
                  refine NW.i64 (by omega) (by omega) ?_
                  refine NCall.atA (q2) ?_
                  exact Canon.mk [] rfl ⟨mid - a', by omega, a', mid, D.lim, false, apd, (pdq ltI d4 (mid + 1) b' D.lim true true).toList, rfl, by omega, by omega, by omega, by omega, by simp; omega, by rw [toA]; exact bR, by rw [toA, hR], rfl, rfl⟩
            · have ga : a' - 1 < (D.pi.1.toList).length := by omega
              have ea : True → Int.toNat ((a' : Int) - 1) = a' - 1 := fun _ => by omega
              have b1 := item_compare_walk (D.pi.1.toList)[a' - 1] (D.pi.1.toList)[D.pivot]
              have y1 := getA ga
              have y2 := getA gp
              cases t : ltI (D.pi.1.toList)[a' - 1] (D.pi.1.toList)[D.pivot] with
              | true =>
                have u := ltT t
                have h87 : (decide (a' > 0) && !ltI D.pi.1[a' - 1]! D.pi.1[D.pivot]!) = false := by rw [hcur, y1, y2, t]; simp
                have hleft := hleft hp2 h87
                have hright := hright hp2 h87
                by_cases h4 : mid - a' < b' - mid
                · have hL := hleft h4
                  have h4S : mid + mid < a' + b' := by omega
                  clear h4
                  refine NW.i64 (by omega) (by omega) ?_
                  refine ND.no (by omega) ?_
                  refine ND.no (by omega) ?_
                  refine NCall.atA (kc) ?_
                  refine ND.yes (by omega) ?_
                  refine NCall.atA (kr) ?_
                  refine NW.i64 (by omega) (by omega) ?_
                  refine NW.i64 (by omega) (by omega) ?_
                  refine NW.i64 (by omega) (by omega) ?_
                  rw [(epv trivial)]
                  refine ND.yes (by omega) ?_
                  refine NCall.atA (kp) ?_
                  refine NP.mk (by kernel_rfl) ?_
                  apply NDr.pure
                  · exact ⟨rfl, rfl⟩
                  apply NDr.pure
                  · refine ND.yes (by omega) ?_
                    exact ⟨rfl, rfl⟩
                  apply NDr.pure
                  · exact ⟨rfl, rfl⟩
                  apply NDr.pure
                  · exact ⟨rfl, rfl⟩
                  apply NDr.any
                  · intro H'
                    exact ⟨rfl, rfl⟩
                  apply NDr.pure
                  · exact ⟨rfl, rfl⟩
                  apply NDr.pure
                  · refine NW.i64 (by omega) (by omega) ?_
                    exact ⟨rfl, rfl⟩
                  apply NDr.rd [0]
                  · intro fH TH
                    refine NP.mk (by (simp only [List.length_map, List.length_append, List.length_replicate, List.length_cons, List.length_nil, List.length_take, List.length_drop]; omega)) ?_
                    rw [(ea trivial)]
                    exact ⟨rfl, rfl⟩
                  apply NDr.rd [0]
                  · intro fH TH
                    refine NG.map0N (by omega) ?_
                    exact ⟨rfl, rfl⟩
                  apply NDr.any
                  · intro H'
                    exact ⟨rfl, rfl⟩
                  apply NDr.pure
                  · exact ⟨rfl, rfl⟩
                  apply NDr.rd [0]
                  · intro fH TH
                    refine NP.mk (by (simp only [List.length_map, List.length_append, List.length_replicate, List.length_cons, List.length_nil, List.length_take, List.length_drop]; omega)) ?_
                    exact ⟨rfl, rfl⟩
                  apply NDr.rd [0]
                  · intro fH TH
                    refine NG.map0N (by omega) ?_
                    exact ⟨rfl, rfl⟩
                  apply NDr.pure
                  · refine NCall.call (b1) rfl rfl ?_
                    exact ⟨rfl, rfl⟩
                  apply NDr.pure
                  · refine ND.yes (by omega) ?_
                    exact ⟨rfl, rfl⟩
                  apply NDr.pure
                  · exact ⟨rfl, rfl⟩
                  apply NDr.pure
                  · exact ⟨rfl, rfl⟩
                  refine NP.mk (by kernel_rfl) ?_
                  refine NCall.atA (kd) ?_
                  refine NW.i64 (by omega) (by omega) ?_
                  refine NW.i64 (by omega) (by omega) ?_
                  refine NP.mk (by omega) ?_
                  rw [(e8 trivial)]
                  refine NW.i64 (by omega) (by omega) ?_
                  refine ND.yes (by omega) ?_
                  refine NB.dec (fun h8 => ?_) (fun h8 => ?_)
                  · have hL := hL
                    rw [decide_eq_true (show mid - a' ≥ q8 by omega)] at hL
                    refine NCall.atA (q1) ?_
                    refine NW.i64 (by omega) (by omega) ?_
                    exact Canon.mk [] rfl ⟨b' - (mid + 1), by omega, mid + 1, b', D.lim, true, apd, (pdq ltI d4 a' mid D.lim true true).toList, rfl, by omega, by omega, by omega, by omega, by simp; omega, by rw [toA]; exact bL, by rw [toA, hL], rfl, rfl⟩
                  · have hL := hL
                    rw [decide_eq_false (show ¬ (mid - a' ≥ q8) by omega)] at hL
                    refine NCall.atA (q1) ?_
                    refine NW.i64 (by omega) (by omega) ?_
                    exact Canon.mk [] rfl ⟨b' - (mid + 1), by omega, mid + 1, b', D.lim, false, apd, (pdq ltI d4 a' mid D.lim true true).toList, rfl, by omega, by omega, by omega, by omega, by simp; omega, by rw [toA]; exact bL, by rw [toA, hL], rfl, rfl⟩
                · rw [show ((mid + 1 : Nat) : Int) = (mid : Int) + 1 by omega] at q2
                  have hR := hright h4
                  have h4S : ¬ mid + mid < a' + b' := by omega
                  clear h4
                  refine NW.i64 (by omega) (by omega) ?_
                  refine ND.no (by omega) ?_
                  refine ND.no (by omega) ?_
                  refine NCall.atA (kc) ?_
                  refine ND.yes (by omega) ?_
                  refine NCall.atA (kr) ?_
                  refine NW.i64 (by omega) (by omega) ?_
                  refine NW.i64 (by omega) (by omega) ?_
                  refine NW.i64 (by omega) (by omega) ?_
                  rw [(epv trivial)]
                  refine ND.yes (by omega) ?_
                  refine NCall.atA (kp) ?_
                  refine NP.mk (by kernel_rfl) ?_
                  apply NDr.pure
                  · exact ⟨rfl, rfl⟩
                  apply NDr.pure
                  · refine ND.yes (by omega) ?_
                    exact ⟨rfl, rfl⟩
                  apply NDr.pure
                  · exact ⟨rfl, rfl⟩
                  apply NDr.pure
                  · exact ⟨rfl, rfl⟩
                  apply NDr.any
                  · intro H'
                    exact ⟨rfl, rfl⟩
                  apply NDr.pure
                  · exact ⟨rfl, rfl⟩
                  apply NDr.pure
                  · refine NW.i64 (by omega) (by omega) ?_
                    exact ⟨rfl, rfl⟩
                  apply NDr.rd [0]
                  · intro fH TH
                    refine NP.mk (by (simp only [List.length_map, List.length_append, List.length_replicate, List.length_cons, List.length_nil, List.length_take, List.length_drop]; omega)) ?_
                    rw [(ea trivial)]
                    exact ⟨rfl, rfl⟩
                  apply NDr.rd [0]
                  · intro fH TH
                    refine NG.map0N (by omega) ?_
                    exact ⟨rfl, rfl⟩
                  apply NDr.any
                  · intro H'
                    exact ⟨rfl, rfl⟩
                  apply NDr.pure
                  · exact ⟨rfl, rfl⟩
                  apply NDr.rd [0]
                  · intro fH TH
                    refine NP.mk (by (simp only [List.length_map, List.length_append, List.length_replicate, List.length_cons, List.length_nil, List.length_take, List.length_drop]; omega)) ?_
                    exact ⟨rfl, rfl⟩
                  apply NDr.rd [0]
                  · intro fH TH
                    refine NG.map0N (by omega) ?_
                    exact ⟨rfl, rfl⟩
                  apply NDr.pure
                  · refine NCall.call (b1) rfl rfl ?_
                    exact ⟨rfl, rfl⟩
                  apply NDr.pure
                  · refine ND.yes (by omega) ?_
                    exact ⟨rfl, rfl⟩
                  apply NDr.pure
                  · exact ⟨rfl, rfl⟩
                  apply NDr.pure
                  · exact ⟨rfl, rfl⟩
                  refine NP.mk (by kernel_rfl) ?_
                  refine NCall.atA (kd) ?_
                  refine NW.i64 (by omega) (by omega) ?_
                  refine NW.i64 (by omega) (by omega) ?_
                  refine NP.mk (by omega) ?_
                  rw [(e8 trivial)]
                  refine NW.i64 (by omega) (by omega) ?_
                  refine ND.no (by omega) ?_
                  refine NB.dec (fun h8 => ?_) (fun h8 => ?_)
                  · have hR := hR
                    rw [decide_eq_true (show b' - mid ≥ q8 by omega)] at hR
                    refine NW.i64 (by omega) (by omega) ?_
                    refine NCall.atA (q2) ?_
                    exact Canon.mk [] rfl ⟨mid - a', by omega, a', mid, D.lim, true, apd, (pdq ltI d4 (mid + 1) b' D.lim true true).toList, rfl, by omega, by omega, by omega, by omega, by simp; omega, by rw [toA]; exact bR, by rw [toA, hR], rfl, rfl⟩
                  · have hR := hR
                    rw [decide_eq_false (show ¬ (b' - mid ≥ q8) by omega)] at hR
                    refine NW.i64 (by omega) (by omega) ?_
                    refine NCall.atA (q2) ?_
                    exact Canon.mk [] rfl ⟨mid - a', by omega, a', mid, D.lim, false, apd, (pdq ltI d4 (mid + 1) b' D.lim true true).toList, rfl, by omega, by omega, by omega, by omega, by simp; omega, by rw [toA]; exact bR, by rw [toA, hR], rfl, rfl⟩
              | false =>
                have u := ltF t
                have h87 : (decide (a' > 0) && !ltI D.pi.1[a' - 1]! D.pi.1[D.pivot]!) = true := by rw [hcur, y1, y2, t]; simp; omega
                obtain ⟨mi, d5, hy⟩ : ∃ mi d5, partitionEqual ltI D.pi.1 a' b' D.pivot = (mi, d5) := ⟨_, _, rfl⟩
                obtain ⟨r1, r2, r3, r4, _⟩ := Go.Sort.round_eq swoI (Go.Sort.partitionEqual_holds ltI) (by omega) hpv.1 hpv.2 (by omega) B3 (by rw [hcur, y1, y2, t]) hy
                have heq := heq hp2 h87 (by rw [hy]; exact ⟨r1, r2⟩)
                rw [hy] at ke heq
                dsimp only at ke heq
                refine NW.i64 (by omega) (by omega) ?_
                refine ND.no (by omega) ?_
                refine ND.no (by omega) ?_
                refine NCall.atA (kc) ?_
                refine ND.yes (by omega) ?_
                refine NCall.atA (kr) ?_
                refine NW.i64 (by omega) (by omega) ?_
                refine NW.i64 (by omega) (by omega) ?_
                refine NW.i64 (by omega) (by omega) ?_
                rw [(epv trivial)]
                refine ND.yes (by omega) ?_
                refine NCall.atA (kp) ?_
                refine NP.mk (by kernel_rfl) ?_
                apply NDr.pure
                · exact ⟨rfl, rfl⟩
                apply NDr.pure
                · refine ND.yes (by omega) ?_
                  exact ⟨rfl, rfl⟩
                apply NDr.pure
                · exact ⟨rfl, rfl⟩
                apply NDr.pure
                · exact ⟨rfl, rfl⟩
                apply NDr.any
                · intro H'
                  exact ⟨rfl, rfl⟩
                apply NDr.pure
                · exact ⟨rfl, rfl⟩
                apply NDr.pure
                · refine NW.i64 (by omega) (by omega) ?_
                  exact ⟨rfl, rfl⟩
                apply NDr.rd [0]
                · intro fH TH
                  refine NP.mk (by (simp only [List.length_map, List.length_append, List.length_replicate, List.length_cons, List.length_nil, List.length_take, List.length_drop]; omega)) ?_
                  rw [(ea trivial)]
                  exact ⟨rfl, rfl⟩
                apply NDr.rd [0]
                · intro fH TH
                  refine NG.map0N (by omega) ?_
                  exact ⟨rfl, rfl⟩
                apply NDr.any
                · intro H'
                  exact ⟨rfl, rfl⟩
                apply NDr.pure
                · exact ⟨rfl, rfl⟩
                apply NDr.rd [0]
                · intro fH TH
                  refine NP.mk (by (simp only [List.length_map, List.length_append, List.length_replicate, List.length_cons, List.length_nil, List.length_take, List.length_drop]; omega)) ?_
                  exact ⟨rfl, rfl⟩
                apply NDr.rd [0]
                · intro fH TH
                  refine NG.map0N (by omega) ?_
                  exact ⟨rfl, rfl⟩
                apply NDr.pure
                · refine NCall.call (b1) rfl rfl ?_
                  exact ⟨rfl, rfl⟩
                apply NDr.pure
                · refine ND.no (by omega) ?_
                  exact ⟨rfl, rfl⟩
                apply NDr.pure
                · exact ⟨rfl, rfl⟩
                apply NDr.pure
                · exact ⟨rfl, rfl⟩
                refine NP.mk (by kernel_rfl) ?_
                refine NCall.atA (ke) ?_
                exact Canon.mk [] rfl ⟨b' - mi, by omega, mi, b', D.lim, true, true, d5.toList, rfl, by omega, by omega, by omega, by omega, by simp; omega, by rw [toA]; exact r4, by rw [toA, heq], rfl, rfl⟩
        | increasing =>
          rw [hh] at kc
          rw [show hintCode .increasing = 1 from rfl] at kc
          obtain ⟨e2, ep, eh⟩ := hnot (by rw [hh]; simp)
          rw [hh] at eh
          rw [← ep] at kc
          have epi := hyes (by rw [eh]; rfl)
          rw [← epi] at kp
          have hrow2 : D.d2.toList.map itemA = e.map itemA := by rw [e2, hd1]
          rw [hrow2] at kp
          cases hp2 : D.pi.2 with
          | true =>
            rw [hp2] at kp
            rw [hdone hp2]
            refine NW.i64 (by omega) (by omega) ?_
            refine ND.no (by omega) ?_
            refine ND.no (by omega) ?_
            refine NCall.atA (kc) ?_
            refine ND.no (by omega) ?_
            refine ND.yes (by omega) ?_
            refine NCall.atA (kp) ?_
            exact NRet.mk [] rfl ⟨.refl _, rfl⟩
          | false =>
            rw [hp2] at kp
            have hcur : D.pi.1 = (D.pi.1.toList).toArray := (toA _).symm
            have gp : D.pivot < (D.pi.1.toList).length := by omega
            by_cases ha0 : a' = 0
            · have dec0 : ¬ a' > 0 := by omega
              have h87 : (decide (a' > 0) && !ltI D.pi.1[a' - 1]! D.pi.1[D.pivot]!) = false := by rw [decide_eq_false dec0]; rfl
              have hleft := hleft hp2 h87
              have hright := hright hp2 h87
              by_cases h4 : mid - a' < b' - mid
              · have hL := hleft h4
                have h4S : mid + mid < a' + b' := by omega
                clear h4
                refine NW.i64 (by omega) (by omega) ?_
                refine ND.no (by omega) ?_
                refine ND.no (by omega) ?_
                refine NCall.atA (kc) ?_
                refine ND.no (by omega) ?_
                refine ND.yes (by omega) ?_
                refine NCall.atA (kp) ?_
                refine NP.mk (by kernel_rfl) ?_
                apply NDr.pure
                · exact ⟨rfl, rfl⟩
                apply NDr.pure
                · refine ND.no (by omega) ?_
                  exact ⟨rfl, rfl⟩
                apply NDr.pure
                · exact ⟨rfl, rfl⟩
                apply NDr.pure
                · exact ⟨rfl, rfl⟩
                refine NP.mk (by kernel_rfl) ?_
                refine NCall.atA (kd) ?_
                refine NW.i64 (by omega) (by omega) ?_
                refine NW.i64 (by omega) (by omega) ?_
                refine NP.mk (by omega) ?_
                rw [(e8 trivial)]
                refine NW.i64 (by omega) (by omega) ?_
                refine ND.yes (by omega) ?_
                refine NB.dec (fun h8 => ?_) (fun h8 => ?_)
                · have hL := hL
                  rw [decide_eq_true (show mid - a' ≥ q8 by omega)] at hL
                  refine NCall.atA (q1) ?_
                  refine NW.i64 (by omega) (by omega) ?_
                  exact Canon.mk [] rfl ⟨b' - (mid + 1), by omega, mid + 1, b', D.lim, true, apd, (pdq ltI d4 a' mid D.lim true true).toList, rfl, by omega, by omega, by omega, by omega, by simp; omega, by rw [toA]; exact bL, by rw [toA, hL], rfl, rfl⟩
                · have hL := hL
                  rw [decide_eq_false (show ¬ (mid - a' ≥ q8) by omega)] at hL
                  refine NCall.atA (q1) ?_
                  refine NW.i64 (by omega) (by omega) ?_
                  exact Canon.mk [] rfl ⟨b' - (mid + 1), by omega, mid + 1, b', D.lim, false, apd, (pdq ltI d4 a' mid D.lim true true).toList, rfl, by omega, by omega, by omega, by omega, by simp; omega, by rw [toA]; exact bL, by rw [toA, hL], rfl, rfl⟩
              · rw [show ((mid + 1 : Nat) : Int) = (mid : Int) + 1 by omega] at q2
                have hR := hright h4
                have h4S : ¬ mid + mid < a' + b' := by omega
                clear h4
                refine NW.i64 (by omega) (by omega) ?_
                refine ND.no (by omega) ?_
                refine ND.no (by omega) ?_
                refine NCall.atA (kc) ?_
                refine ND.no (by omega) ?_
                refine ND.yes (by omega) ?_
                refine NCall.atA (kp) ?_
                refine NP.mk (by kernel_rfl) ?_
                apply NDr.pure
                · exact ⟨rfl, rfl⟩
                apply NDr.pure
                · refine ND.no (by omega) ?_
                  exact ⟨rfl, rfl⟩
                apply NDr.pure
                · exact ⟨rfl, rfl⟩
                apply NDr.pure
                · exact ⟨rfl, rfl⟩
                refine NP.mk (by kernel_rfl) ?_
                refine NCall.atA (kd) ?_
                refine NW.i64 (by omega) (by omega) ?_
                refine NW.i64 (by omega) (by omega) ?_
                refine NP.mk (by omega) ?_
                rw [(e8 trivial)]
                refine NW.i64 (by omega) (by omega) ?_
                refine ND.no (by omega) ?_
                refine NB.dec (fun h8 => ?_) (fun h8 => ?_)
                · have hR := hR
                  rw [decide_eq_true (show b' - mid ≥ q8 by omega)] at hR
                  refine NW.i64 (by omega) (by omega) ?_
                  refine NCall.atA (q2) ?_
                  exact Canon.mk [] rfl ⟨mid - a', by omega, a', mid, D.lim, true, apd, (pdq ltI d4 (mid + 1) b' D.lim true true).toList, rfl, by omega, by omega, by omega, by omega, by simp; omega, by rw [toA]; exact bR, by rw [toA, hR], rfl, rfl⟩
                · have hR := hR
                  rw [decide_eq_false (show ¬ (b' - mid ≥ q8) by omega)] at hR
                  refine NW.i64 (by omega) (by omega) ?_
                  refine NCall.atA (q2) ?_
                  exact Canon.mk [] rfl ⟨mid - a', by omega, a', mid, D.lim, false, apd, (pdq ltI d4 (mid + 1) b' D.lim true true).toList, rfl, by omega, by omega, by omega, by omega, by simp; omega, by rw [toA]; exact bR, by rw [toA, hR], rfl, rfl⟩
            · have ga : a' - 1 < (D.pi.1.toList).length := by omega
              have ea : True → Int.toNat ((a' : Int) - 1) = a' - 1 := fun _ => by omega
              have b1 := item_compare_walk (D.pi.1.toList)[a' - 1] (D.pi.1.toList)[D.pivot]
              have y1 := getA ga
              have y2 := getA gp
              cases t : ltI (D.pi.1.toList)[a' - 1] (D.pi.1.toList)[D.pivot] with
              | true =>
                have u := ltT t
                have h87 : (decide (a' > 0) && !ltI D.pi.1[a' - 1]! D.pi.1[D.pivot]!) = false := by rw [hcur, y1, y2, t]; simp
                have hleft := hleft hp2 h87
                have hright := hright hp2 h87
                by_cases h4 : mid - a' < b' - mid
                · have hL := hleft h4
                  have h4S : mid + mid < a' + b' := by omega
                  clear h4
                  refine NW.i64 (by omega) (by omega) ?_
                  refine ND.no (by omega) ?_
                  refine ND.no (by omega) ?_
                  refine NCall.atA (kc) ?_
                  refine ND.no (by omega) ?_
                  refine ND.yes (by omega) ?_
                  refine NCall.atA (kp) ?_
                  refine NP.mk (by kernel_rfl) ?_
                  apply NDr.pure
                  · exact ⟨rfl, rfl⟩
                  apply NDr.pure
                  · refine ND.yes (by omega) ?_
                    exact ⟨rfl, rfl⟩
                  apply NDr.pure
                  · exact ⟨rfl, rfl⟩
                  apply NDr.pure
                  · exact ⟨rfl, rfl⟩
                  apply NDr.any
                  · intro H'
                    exact ⟨rfl, rfl⟩
                  apply NDr.pure
                  · exact ⟨rfl, rfl⟩
                  apply NDr.pure
                  · refine NW.i64 (by omega) (by omega) ?_
                    exact ⟨rfl, rfl⟩
                  apply NDr.rd [0]
                  · intro fH TH
                    refine NP.mk (by (simp only [List.length_map, List.length_append, List.length_replicate, List.length_cons, List.length_nil, List.length_take, List.length_drop]; omega)) ?_
                    rw [(ea trivial)]
                    exact ⟨rfl, rfl⟩
                  apply NDr.rd [0]
                  · intro fH TH
                    refine NG.map0N (by omega) ?_
                    exact ⟨rfl, rfl⟩
                  apply NDr.any
                  · intro H'
                    exact ⟨rfl, rfl⟩
                  apply NDr.pure
                  · exact ⟨rfl, rfl⟩
                  apply NDr.rd [0]
                  · intro fH TH
                    refine NP.mk (by (simp only [List.length_map, List.length_append, List.length_replicate, List.length_cons, List.length_nil, List.length_take, List.length_drop]; omega)) ?_
                    exact ⟨rfl, rfl⟩
                  apply NDr.rd [0]
                  · intro fH TH
                    refine NG.map0N (by omega) ?_
                    exact ⟨rfl, rfl⟩
                  apply NDr.pure
                  · refine NCall.call (b1) rfl rfl ?_
                    exact ⟨rfl, rfl⟩
                  apply NDr.pure
                  · refine ND.yes (by omega) ?_
                    exact ⟨rfl, rfl⟩
                  apply NDr.pure
                  · exact ⟨rfl, rfl⟩
                  apply NDr.pure
                  · exact ⟨rfl, rfl⟩
                  refine NP.mk (by kernel_rfl) ?_
                  refine NCall.atA (kd) ?_
                  refine NW.i64 (by omega) (by omega) ?_
                  refine NW.i64 (by omega) (by omega) ?_
                  refine NP.mk (by omega) ?_
                  rw [(e8 trivial)]
                  refine NW.i64 (by omega) (by omega) ?_
                  refine ND.yes (by omega) ?_
                  refine NB.dec (fun h8 => ?_) (fun h8 => ?_)
                  · have hL := hL
                    rw [decide_eq_true (show mid - a' ≥ q8 by omega)] at hL
                    refine NCall.atA (q1) ?_
                    refine NW.i64 (by omega) (by omega) ?_
                    exact Canon.mk [] rfl ⟨b' - (mid + 1), by omega, mid + 1, b', D.lim, true, apd, (pdq ltI d4 a' mid D.lim true true).toList, rfl, by omega, by omega, by omega, by omega, by simp; omega, by rw [toA]; exact bL, by rw [toA, hL], rfl, rfl⟩
                  · have hL := hL
                    rw [decide_eq_false (show ¬ (mid - a' ≥ q8) by omega)] at hL
                    refine NCall.atA (q1) ?_
                    refine NW.i64 (by omega) (by omega) ?_
                    exact Canon.mk [] rfl ⟨b' - (mid + 1), by omega, mid + 1, b', D.lim, false, apd, (pdq ltI d4 a' mid D.lim true true).toList, rfl, by omega, by omega, by omega, by omega, by simp; omega, by rw [toA]; exact bL, by rw [toA, hL], rfl, rfl⟩
                · rw [show ((mid + 1 : Nat) : Int) = (mid : Int) + 1 by omega] at q2
                  have hR := hright h4
                  have h4S : ¬ mid + mid < a' + b' := by omega
                  clear h4
                  refine NW.i64 (by omega) (by omega) ?_
                  refine ND.no (by omega) ?_
                  refine ND.no (by omega) ?_
                  refine NCall.atA (kc) ?_
                  refine ND.no (by omega) ?_
                  refine ND.yes (by omega) ?_
                  refine NCall.atA (kp) ?_
                  refine NP.mk (by kernel_rfl) ?_
                  apply NDr.pure
                  · exact ⟨rfl, rfl⟩
                  apply NDr.pure
                  · refine ND.yes (by omega) ?_
                    exact ⟨rfl, rfl⟩
                  apply NDr.pure
                  · exact ⟨rfl, rfl⟩
                  apply NDr.pure
                  · exact ⟨rfl, rfl⟩
                  apply NDr.any
                  · intro H'
                    exact ⟨rfl, rfl⟩
                  apply NDr.pure
                  · exact ⟨rfl, rfl⟩
                  apply NDr.pure
                  · refine NW.i64 (by omega) (by omega) ?_
                    exact ⟨rfl, rfl⟩
                  apply NDr.rd [0]
                  · intro fH TH
                    refine NP.mk (by (simp only [List.length_map, List.length_append, List.length_replicate, List.length_cons, List.length_nil, List.length_take, List.length_drop]; omega)) ?_
                    rw [(ea trivial)]
                    exact ⟨rfl, rfl⟩
                  apply NDr.rd [0]
                  · intro fH TH
                    refine NG.map0N (by omega) ?_
                    exact ⟨rfl, rfl⟩
                  apply NDr.any
                  · intro H'
                    exact ⟨rfl, rfl⟩
                  apply NDr.pure
                  · exact ⟨rfl, rfl⟩
                  apply NDr.rd [0]
                  · intro fH TH
                    refine NP.mk (by (simp only [List.length_map, List.length_append, List.length_replicate, List.length_cons, List.length_nil, List.length_take, List.length_drop]; omega)) ?_
                    exact ⟨rfl, rfl⟩
                  apply NDr.rd [0]
                  · intro fH TH
                    refine NG.map0N (by omega) ?_
                    exact ⟨rfl, rfl⟩
                  apply NDr.pure
                  · refine NCall.call (b1) rfl rfl ?_
                    exact ⟨rfl, rfl⟩
                  apply NDr.pure
                  · refine ND.yes (by omega) ?_
                    exact ⟨rfl, rfl⟩
                  apply NDr.pure
                  · exact ⟨rfl, rfl⟩
                  apply NDr.pure
                  · exact ⟨rfl, rfl⟩
                  refine NP.mk (by kernel_rfl) ?_
                  refine NCall.atA (kd) ?_
                  refine NW.i64 (by omega) (by omega) ?_
                  refine NW.i64 (by omega) (by omega) ?_
                  refine NP.mk (by omega) ?_
                  rw [(e8 trivial)]
                  refine NW.i64 (by omega) (by omega) ?_
                  refine ND.no (by omega) ?_
                  refine NB.dec (fun h8 => ?_) (fun h8 => ?_)
                  · have hR := hR
                    rw [decide_eq_true (show b' - mid ≥ q8 by omega)] at hR
                    refine NW.i64 (by omega) (by omega) ?_
                    refine NCall.atA (q2) ?_
                    exact Canon.mk [] rfl ⟨mid - a', by omega, a', mid, D.lim, true, apd, (pdq ltI d4 (mid + 1) b' D.lim true true).toList, rfl, by omega, by omega, by omega, by omega, by simp; omega, by rw [toA]; exact bR, by rw [toA, hR], rfl, rfl⟩
                  · have hR := hR
                    rw [decide_eq_false (show ¬ (b' - mid ≥ q8) by omega)] at hR
                    refine NW.i64 (by omega) (by omega) ?_
                    refine NCall.atA (q2) ?_
                    exact Canon.mk [] rfl ⟨mid - a', by omega, a', mid, D.lim, false, apd, (pdq ltI d4 (mid + 1) b' D.lim true true).toList, rfl, by omega, by omega, by omega, by omega, by simp; omega, by rw [toA]; exact bR, by rw [toA, hR], rfl, rfl⟩
              | false =>
                have u := ltF t
                have h87 : (decide (a' > 0) && !ltI D.pi.1[a' - 1]! D.pi.1[D.pivot]!) = true := by rw [hcur, y1, y2, t]; simp; omega
                obtain ⟨mi, d5, hy⟩ : ∃ mi d5, partitionEqual ltI D.pi.1 a' b' D.pivot = (mi, d5) := ⟨_, _, rfl⟩
                obtain ⟨r1, r2, r3, r4, _⟩ := Go.Sort.round_eq swoI (Go.Sort.partitionEqual_holds ltI) (by omega) hpv.1 hpv.2 (by omega) B3 (by rw [hcur, y1, y2, t]) hy
                have heq := heq hp2 h87 (by rw [hy]; exact ⟨r1, r2⟩)
                rw [hy] at ke heq
                dsimp only at ke heq
                refine NW.i64 (by omega) (by omega) ?_
                refine ND.no (by omega) ?_
                refine ND.no (by omega) ?_
                refine NCall.atA (kc) ?_
                refine ND.no (by omega) ?_
                refine ND.yes (by omega) ?_
                refine NCall.atA (kp) ?_
                refine NP.mk (by kernel_rfl) ?_
                apply NDr.pure
                · exact ⟨rfl, rfl⟩
                apply NDr.pure
                · refine ND.yes (by omega) ?_
                  exact ⟨rfl, rfl⟩
                apply NDr.pure
                · exact ⟨rfl, rfl⟩
                apply NDr.pure
                · exact ⟨rfl, rfl⟩
                apply NDr.any
                · intro H'
                  exact ⟨rfl, rfl⟩
                apply NDr.pure
                · exact ⟨rfl, rfl⟩
                apply NDr.pure
                · refine NW.i64 (by omega) (by omega) ?_
                  exact ⟨rfl, rfl⟩
                apply NDr.rd [0]
                · intro fH TH
                  refine NP.mk (by (simp only [List.length_map, List.length_append, List.length_replicate, List.length_cons, List.length_nil, List.length_take, List.length_drop]; omega)) ?_
                  rw [(ea trivial)]
                  exact ⟨rfl, rfl⟩
                apply NDr.rd [0]
                · intro fH TH
                  refine NG.map0N (by omega) ?_
                  exact ⟨rfl, rfl⟩
                apply NDr.any
                · intro H'
                  exact ⟨rfl, rfl⟩
                apply NDr.pure
                · exact ⟨rfl, rfl⟩
                apply NDr.rd [0]
                · intro fH TH
                  refine NP.mk (by (simp only [List.length_map, List.length_append, List.length_replicate, List.length_cons, List.length_nil, List.length_take, List.length_drop]; omega)) ?_
                  exact ⟨rfl, rfl⟩
                apply NDr.rd [0]
                · intro fH TH
                  refine NG.map0N (by omega) ?_
                  exact ⟨rfl, rfl⟩
                apply NDr.pure
                · refine NCall.call (b1) rfl rfl ?_
                  exact ⟨rfl, rfl⟩
                apply NDr.pure
                · refine ND.no (by omega) ?_
                  exact ⟨rfl, rfl⟩
                apply NDr.pure
                · exact ⟨rfl, rfl⟩
                apply NDr.pure
                · exact ⟨rfl, rfl⟩
                refine NP.mk (by kernel_rfl) ?_
                refine NCall.atA (ke) ?_
                exact Canon.mk [] rfl ⟨b' - mi, by omega, mi, b', D.lim, true, true, d5.toList, rfl, by omega, by omega, by omega, by omega, by simp; omega, by rw [toA]; exact r4, by rw [toA, heq], rfl, rfl⟩
        | unknown =>
          rw [hh] at kc
          rw [show hintCode .unknown = 0 from rfl] at kc
          obtain ⟨e2, ep, eh⟩ := hnot (by rw [hh]; simp)
          rw [hh] at eh
          rw [← ep] at kc
          have epi := hno (by rw [eh]; rfl)
          have hp2 : D.pi.2 = false := by rw [epi]
          have hrow3 : D.pi.1.toList.map itemA = e.map itemA := by rw [epi, e2, hd1]
          rw [hrow3] at kd ke
          have hcur : D.pi.1 = (e).toArray := by rw [epi, e2, hd1]
          have gp : D.pivot < (e).length := by omega
          by_cases ha0 : a' = 0
          · have dec0 : ¬ a' > 0 := by omega
            have h87 : (decide (a' > 0) && !ltI D.pi.1[a' - 1]! D.pi.1[D.pivot]!) = false := by rw [decide_eq_false dec0]; rfl
            have hleft := hleft hp2 h87
            have hright := hright hp2 h87
            by_cases h4 : mid - a' < b' - mid
            · have hL := hleft h4
              have h4S : mid + mid < a' + b' := by omega
              clear h4
              refine NW.i64 (by omega) (by omega) ?_
              refine ND.no (by omega) ?_
              refine ND.no (by omega) ?_
              refine NCall.atA (kc) ?_
              refine ND.no (by omega) ?_
              refine ND.no (by omega) ?_
              refine NP.mk (by kernel_rfl) ?_
              apply NDr.pure
              · exact ⟨rfl, rfl⟩
              apply NDr.pure
              · refine ND.no (by omega) ?_
                exact ⟨rfl, rfl⟩
              apply NDr.pure
              · exact ⟨rfl, rfl⟩
              apply NDr.pure
              · exact ⟨rfl, rfl⟩
              refine NP.mk (by kernel_rfl) ?_
              refine NCall.atA (kd) ?_
              refine NW.i64 (by omega) (by omega) ?_
              refine NW.i64 (by omega) (by omega) ?_
              refine NP.mk (by omega) ?_
              rw [(e8 trivial)]
              refine NW.i64 (by omega) (by omega) ?_
              refine ND.yes (by omega) ?_
              refine NB.dec (fun h8 => ?_) (fun h8 => ?_)
              · have hL := hL
                rw [decide_eq_true (show mid - a' ≥ q8 by omega)] at hL
                refine NCall.atA (q1) ?_
                refine NW.i64 (by omega) (by omega) ?_
                exact Canon.mk [] rfl ⟨b' - (mid + 1), by omega, mid + 1, b', D.lim, true, apd, (pdq ltI d4 a' mid D.lim true true).toList, rfl, by omega, by omega, by omega, by omega, by simp; omega, by rw [toA]; exact bL, by rw [toA, hL], rfl, rfl⟩
              · have hL := hL
                rw [decide_eq_false (show ¬ (mid - a' ≥ q8) by omega)] at hL
                refine NCall.atA (q1) ?_
                refine NW.i64 (by omega) (by omega) ?_
                exact Canon.mk [] rfl ⟨b' - (mid + 1), by omega, mid + 1, b', D.lim, false, apd, (pdq ltI d4 a' mid D.lim true true).toList, rfl, by omega, by omega, by omega, by omega, by simp; omega, by rw [toA]; exact bL, by rw [toA, hL], rfl, rfl⟩
            · rw [show ((mid + 1 : Nat) : Int) = (mid : Int) + 1 by omega] at q2
              have hR := hright h4
              have h4S : ¬ mid + mid < a' + b' := by omega
              clear h4
              refine NW.i64 (by omega) (by omega) ?_
              refine ND.no (by omega) ?_
              refine ND.no (by omega) ?_
              refine NCall.atA (kc) ?_
              refine ND.no (by omega) ?_
              refine ND.no (by omega) ?_
              refine NP.mk (by kernel_rfl) ?_
              apply NDr.pure
              · exact ⟨rfl, rfl⟩
              apply NDr.pure
              · refine ND.no (by omega) ?_
                exact ⟨rfl, rfl⟩
              apply NDr.pure
              · exact ⟨rfl, rfl⟩
              apply NDr.pure
              · exact ⟨rfl, rfl⟩
              refine NP.mk (by kernel_rfl) ?_
              refine NCall.atA (kd) ?_
              refine NW.i64 (by omega) (by omega) ?_
              refine NW.i64 (by omega) (by omega) ?_
              refine NP.mk (by omega) ?_
              rw [(e8 trivial)]
              refine NW.i64 (by omega) (by omega) ?_
              refine ND.no (by omega) ?_
              refine NB.dec (fun h8 => ?_) (fun h8 => ?_)
              · have hR := hR
                rw [decide_eq_true (show b' - mid ≥ q8 by omega)] at hR
                refine NW.i64 (by omega) (by omega) ?_
                refine NCall.atA (q2) ?_
                exact Canon.mk [] rfl ⟨mid - a', by omega, a', mid, D.lim, true, apd, (pdq ltI d4 (mid + 1) b' D.lim true true).toList, rfl, by omega, by omega, by omega, by omega, by simp; omega, by rw [toA]; exact bR, by rw [toA, hR], rfl, rfl⟩
              · have hR := hR
                rw [decide_eq_false (show ¬ (b' - mid ≥ q8) by omega)] at hR
                refine NW.i64 (by omega) (by omega) ?_
                refine NCall.atA (q2) ?_
                exact Canon.mk [] rfl ⟨mid - a', by omega, a', mid, D.lim, false, apd, (pdq ltI d4 (mid + 1) b' D.lim true true).toList, rfl, by omega, by omega, by omega, by omega, by simp; omega, by rw [toA]; exact bR, by rw [toA, hR], rfl, rfl⟩
          · have ga : a' - 1 < (e).length := by omega
            have ea : True → Int.toNat ((a' : Int) - 1) = a' - 1 := fun _ => by omega
            have b1 := item_compare_walk (e)[a' - 1] (e)[D.pivot]
            have y1 := getA ga
            have y2 := getA gp
            cases t : ltI (e)[a' - 1] (e)[D.pivot] with
            | true =>
              have u := ltT t
              have h87 : (decide (a' > 0) && !ltI D.pi.1[a' - 1]! D.pi.1[D.pivot]!) = false := by rw [hcur, y1, y2, t]; simp
              have hleft := hleft hp2 h87
              have hright := hright hp2 h87
              by_cases h4 : mid - a' < b' - mid
              · have hL := hleft h4
                have h4S : mid + mid < a' + b' := by omega
                clear h4
                refine NW.i64 (by omega) (by omega) ?_
                refine ND.no (by omega) ?_
                refine ND.no (by omega) ?_
                refine NCall.atA (kc) ?_
                refine ND.no (by omega) ?_
                refine ND.no (by omega) ?_
                refine NP.mk (by kernel_rfl) ?_
                apply NDr.pure
                · exact ⟨rfl, rfl⟩
                apply NDr.pure
                · refine ND.yes (by omega) ?_
                  exact ⟨rfl, rfl⟩
                apply NDr.pure
                · exact ⟨rfl, rfl⟩
                apply NDr.pure
                · exact ⟨rfl, rfl⟩
                apply NDr.any
                · intro H'
                  exact ⟨rfl, rfl⟩
                apply NDr.pure
                · exact ⟨rfl, rfl⟩
                apply NDr.pure
                · refine NW.i64 (by omega) (by omega) ?_
                  exact ⟨rfl, rfl⟩
                apply NDr.rd [0]
                · intro fH TH
                  refine NP.mk (by (simp only [List.length_map, List.length_append, List.length_replicate, List.length_cons, List.length_nil, List.length_take, List.length_drop]; omega)) ?_
                  rw [(ea trivial)]
                  exact ⟨rfl, rfl⟩
                apply NDr.rd [0]
                · intro fH TH
                  refine NG.map0N (by omega) ?_
                  exact ⟨rfl, rfl⟩
                apply NDr.any
                · intro H'
                  exact ⟨rfl, rfl⟩
                apply NDr.pure
                · exact ⟨rfl, rfl⟩
                apply NDr.rd [0]
                · intro fH TH
                  refine NP.mk (by (simp only [List.length_map, List.length_append, List.length_replicate, List.length_cons, List.length_nil, List.length_take, List.length_drop]; omega)) ?_
                  exact ⟨rfl, rfl⟩
                apply NDr.rd [0]
                · intro fH TH
                  refine NG.map0N (by omega) ?_
                  exact ⟨rfl, rfl⟩
                apply NDr.pure
                · refine NCall.call (b1) rfl rfl ?_
                  exact ⟨rfl, rfl⟩
                apply NDr.pure
                · refine ND.yes (by omega) ?_
                  exact ⟨rfl, rfl⟩
                apply NDr.pure
                · exact ⟨rfl, rfl⟩
                apply NDr.pure
                · exact ⟨rfl, rfl⟩
                refine NP.mk (by kernel_rfl) ?_
                refine NCall.atA (kd) ?_
                refine NW.i64 (by omega) (by omega) ?_
                refine NW.i64 (by omega) (by omega) ?_
                refine NP.mk (by omega) ?_
                rw [(e8 trivial)]
                refine NW.i64 (by omega) (by omega) ?_
                refine ND.yes (by omega) ?_
                refine NB.dec (fun h8 => ?_) (fun h8 => ?_)
                · have hL := hL
                  rw [decide_eq_true (show mid - a' ≥ q8 by omega)] at hL
                  refine NCall.atA (q1) ?_
                  refine NW.i64 (by omega) (by omega) ?_
                  exact Canon.mk [] rfl ⟨b' - (mid + 1), by omega, mid + 1, b', D.lim, true, apd, (pdq ltI d4 a' mid D.lim true true).toList, rfl, by omega, by omega, by omega, by omega, by simp; omega, by rw [toA]; exact bL, by rw [toA, hL], rfl, rfl⟩
                · have hL := hL
                  rw [decide_eq_false (show ¬ (mid - a' ≥ q8) by omega)] at hL
                  refine NCall.atA (q1) ?_
                  refine NW.i64 (by omega) (by omega) ?_
                  exact Canon.mk [] rfl ⟨b' - (mid + 1), by omega, mid + 1, b', D.lim, false, apd, (pdq ltI d4 a' mid D.lim true true).toList, rfl, by omega, by omega, by omega, by omega, by simp; omega, by rw [toA]; exact bL, by rw [toA, hL], rfl, rfl⟩
              · rw [show ((mid + 1 : Nat) : Int) = (mid : Int) + 1 by omega] at q2
                have hR := hright h4
                have h4S : ¬ mid + mid < a' + b' := by omega
                clear h4
                refine NW.i64 (by omega) (by omega) ?_
                refine ND.no (by omega) ?_
                refine ND.no (by omega) ?_
                refine NCall.atA (kc) ?_
                refine ND.no (by omega) ?_
                refine ND.no (by omega) ?_
                refine NP.mk (by kernel_rfl) ?_
                apply NDr.pure
                · exact ⟨rfl, rfl⟩
                apply NDr.pure
                · refine ND.yes (by omega) ?_
                  exact ⟨rfl, rfl⟩
                apply NDr.pure
                · exact ⟨rfl, rfl⟩
                apply NDr.pure
                · exact ⟨rfl, rfl⟩
                apply NDr.any
                · intro H'
                  exact ⟨rfl, rfl⟩
                apply NDr.pure
                · exact ⟨rfl, rfl⟩
                apply NDr.pure
                · refine NW.i64 (by omega) (by omega) ?_
                  exact ⟨rfl, rfl⟩
                apply NDr.rd [0]
                · intro fH TH
                  refine NP.mk (by (simp only [List.length_map, List.length_append, List.length_replicate, List.length_cons, List.length_nil, List.length_take, List.length_drop]; omega)) ?_
                  rw [(ea trivial)]
                  exact ⟨rfl, rfl⟩
                apply NDr.rd [0]
                · intro fH TH
                  refine NG.map0N (by omega) ?_
                  exact ⟨rfl, rfl⟩
                apply NDr.any
                · intro H'
                  exact ⟨rfl, rfl⟩
                apply NDr.pure
                · exact ⟨rfl, rfl⟩
                apply NDr.rd [0]
                · intro fH TH
                  refine NP.mk (by (simp only [List.length_map, List.length_append, List.length_replicate, List.length_cons, List.length_nil, List.length_take, List.length_drop]; omega)) ?_
                  exact ⟨rfl, rfl⟩
                apply NDr.rd [0]
                · intro fH TH
                  refine NG.map0N (by omega) ?_
                  exact ⟨rfl, rfl⟩
                apply NDr.pure
                · refine NCall.call (b1) rfl rfl ?_
                  exact ⟨rfl, rfl⟩
                apply NDr.pure
                · refine ND.yes (by omega) ?_
                  exact ⟨rfl, rfl⟩
                apply NDr.pure
                · exact ⟨rfl, rfl⟩
                apply NDr.pure
                · exact ⟨rfl, rfl⟩
                refine NP.mk (by kernel_rfl) ?_
                refine NCall.atA (kd) ?_
                refine NW.i64 (by omega) (by omega) ?_
                refine NW.i64 (by omega) (by omega) ?_
                refine NP.mk (by omega) ?_
                rw [(e8 trivial)]
                refine NW.i64 (by omega) (by omega) ?_
                refine ND.no (by omega) ?_
                refine NB.dec (fun h8 => ?_) (fun h8 => ?_)
                · have hR := hR
                  rw [decide_eq_true (show b' - mid ≥ q8 by omega)] at hR
                  refine NW.i64 (by omega) (by omega) ?_
                  refine NCall.atA (q2) ?_
                  exact Canon.mk [] rfl ⟨mid - a', by omega, a', mid, D.lim, true, apd, (pdq ltI d4 (mid + 1) b' D.lim true true).toList, rfl, by omega, by omega, by omega, by omega, by simp; omega, by rw [toA]; exact bR, by rw [toA, hR], rfl, rfl⟩
                · have hR := hR
                  rw [decide_eq_false (show ¬ (b' - mid ≥ q8) by omega)] at hR
                  refine NW.i64 (by omega) (by omega) ?_
                  refine NCall.atA (q2) ?_
                  exact Canon.mk [] rfl ⟨mid - a', by omega, a', mid, D.lim, false, apd, (pdq ltI d4 (mid + 1) b' D.lim true true).toList, rfl, by omega, by omega, by omega, by omega, by simp; omega, by rw [toA]; exact bR, by rw [toA, hR], rfl, rfl⟩
            | false =>
              have u := ltF t
              have h87 : (decide (a' > 0) && !ltI D.pi.1[a' - 1]! D.pi.1[D.pivot]!) = true := by rw [hcur, y1, y2, t]; simp; omega
              obtain ⟨mi, d5, hy⟩ : ∃ mi d5, partitionEqual ltI D.pi.1 a' b' D.pivot = (mi, d5) := ⟨_, _, rfl⟩
              obtain ⟨r1, r2, r3, r4, _⟩ := Go.Sort.round_eq swoI (Go.Sort.partitionEqual_holds ltI) (by omega) hpv.1 hpv.2 (by omega) B3 (by rw [hcur, y1, y2, t]) hy
              have heq := heq hp2 h87 (by rw [hy]; exact ⟨r1, r2⟩)
              rw [hy] at ke heq
              dsimp only at ke heq
              refine NW.i64 (by omega) (by omega) ?_
              refine ND.no (by omega) ?_
              refine ND.no (by omega) ?_
              refine NCall.atA (kc) ?_
              refine ND.no (by omega) ?_
              refine ND.no (by omega) ?_
              refine NP.mk (by kernel_rfl) ?_
              apply NDr.pure
              · exact ⟨rfl, rfl⟩
              apply NDr.pure
              · refine ND.yes (by omega) ?_
                exact ⟨rfl, rfl⟩
              apply NDr.pure
              · exact ⟨rfl, rfl⟩
              apply NDr.pure
              · exact ⟨rfl, rfl⟩
              apply NDr.any
              · intro H'
                exact ⟨rfl, rfl⟩
              apply NDr.pure
              · exact ⟨rfl, rfl⟩
              apply NDr.pure
              · refine NW.i64 (by omega) (by omega) ?_
                exact ⟨rfl, rfl⟩
              apply NDr.rd [0]
              · intro fH TH
                refine NP.mk (by (simp only [List.length_map, List.length_append, List.length_replicate, List.length_cons, List.length_nil, List.length_take, List.length_drop]; omega)) ?_
                rw [(ea trivial)]
                exact ⟨rfl, rfl⟩
              apply NDr.rd [0]
              · intro fH TH
                refine NG.map0N (by omega) ?_
                exact ⟨rfl, rfl⟩
              apply NDr.any
              · intro H'
                exact ⟨rfl, rfl⟩
              apply NDr.pure
              · exact ⟨rfl, rfl⟩
              apply NDr.rd [0]
              · intro fH TH
                refine NP.mk (by (simp only [List.length_map, List.length_append, List.length_replicate, List.length_cons, List.length_nil, List.length_take, List.length_drop]; omega)) ?_
                exact ⟨rfl, rfl⟩
              apply NDr.rd [0]
              · intro fH TH
                refine NG.map0N (by omega) ?_
                exact ⟨rfl, rfl⟩
              apply NDr.pure
              · refine NCall.call (b1) rfl rfl ?_
                exact ⟨rfl, rfl⟩
              apply NDr.pure
              · refine ND.no (by omega) ?_
                exact ⟨rfl, rfl⟩
              apply NDr.pure
              · exact ⟨rfl, rfl⟩
              apply NDr.pure
              · exact ⟨rfl, rfl⟩
              refine NP.mk (by kernel_rfl) ?_
              refine NCall.atA (ke) ?_
              exact Canon.mk [] rfl ⟨b' - mi, by omega, mi, b', D.lim, true, true, d5.toList, rfl, by omega, by omega, by omega, by omega, by simp; omega, by rw [toA]; exact r4, by rw [toA, heq], rfl, rfl⟩
end Go.Bv
