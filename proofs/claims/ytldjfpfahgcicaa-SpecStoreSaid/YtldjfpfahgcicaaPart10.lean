/- Part of the lift: an abstract walk of the program's code, proved sound, and what it shows of this program. -/
import Derived.Test.YtldjfpfahgcicaaPart9
namespace Go.Bv
set_option linter.unusedSimpArgs false
set_option linter.unusedVariables false
set_option maxHeartbeats 4000000
set_option maxRecDepth 20000
open Go Go.Proofs
open Go.Sort (swp scanSorted shiftDown shiftUp partialIns partialInsertionSort fixDown fixUp xorNext xorNextN bitsLen breakStep breakPatterns)
theorem scanSorted_go {d : Array Item} {b i : Nat} (h : i < b) (hp : ltI d[i]! d[i - 1]! = false) : scanSorted ltI d b i = scanSorted ltI d b (i + 1) := by
  rw [scanSorted.eq_def, if_pos (by simp [h, hp])]
theorem scanSorted_stop {d : Array Item} {b i : Nat} (h : ¬ i < b ∨ ltI d[i]! d[i - 1]! = true) : scanSorted ltI d b i = i := by
  rw [scanSorted.eq_def, if_neg]
  rcases h with h | h
  · simp [h]
  · simp [h]
theorem partialIns_walk (l : List Item) (a b : Nat) (hab : a < b) (hb : b ≤ l.length) (hl : l.length ≤ 2 ^ 39) : ACalls Try.prog Nm.slices_partialInsertionSortCmpFunc_api_Item [.own 0 0 l.length, i64 a, i64 b, .fn Nm.item_compare []]
    [.row .vrow (.agg 8) (l.map itemA)] (.bool (partialInsertionSort ltI l.toArray a b).2) [.row .vrow (.agg 8) ((partialInsertionSort ltI l.toArray a b).1.toList.map itemA)] := by
  refine ACalls_of tab (dr_snd tab mixed) Nm.slices_partialInsertionSortCmpFunc_api_Item_h rfl (by kernel_rfl) (Nat.le_of_ble_eq_true rfl) rfl ?_
  refine NW.i64 (by omega) (by omega) ?_
  refine NLoop.mk [] [0, 1, 2, 3, 9, 10] (fun m vs H => ∃ (s i : Nat) (d : List Item), s ≤ 5 ∧ s = m ∧ a + 1 ≤ i ∧ i ≤ b ∧ d.length = l.length ∧ partialIns ltI a b s i d.toArray = partialInsertionSort ltI l.toArray a b ∧ H = [.row .vrow (.agg 8) (d.map itemA)] ∧
    vs = [.own 0 0 l.length, i64 a, i64 b, .fn Nm.item_compare [], i64 i, i64 (5 - s : Nat)]) rfl ?_ ?_
  · exact Canon.mk [] rfl ⟨5, 5, a + 1, l, Nat.le_refl _, rfl, Nat.le_refl _, by omega, rfl, rfl, rfl, rfl⟩
  rintro m vs H ⟨s, i, d, hs, rfl, hai, hib, hdl, he, rfl, rfl⟩
  rw [← he]
  cases s with
  | zero =>
    refine ND.no (by omega) ?_
    exact NRet.mk [] rfl ⟨.refl _, rfl⟩
  | succ s =>
    have e5 : ((5 - (s + 1) : Nat) : Int) + 1 = ((5 - s : Nat) : Int) := by omega
    refine ND.yes (by omega) ?_
    refine NLoop.mk [] [0, 1, 2, 3, 9, 10] (fun m vs H => ∃ (i2 : Nat), i ≤ i2 ∧ i2 ≤ b ∧ m = b - i2 ∧ scanSorted ltI d.toArray b i2 = scanSorted ltI d.toArray b i ∧ H = [.row .vrow (.agg 8) (d.map itemA)] ∧
      vs = [.own 0 0 l.length, i64 a, i64 b, .fn Nm.item_compare [], i64 i2, i64 (5 - (s + 1) : Nat)]) rfl ?_ ?_
    · exact Canon.mk [] rfl ⟨_, i, Nat.le_refl _, hib, rfl, rfl, rfl, rfl⟩
    rintro m vs H ⟨i2, hi2, hi2', rfl, hu, rfl, rfl⟩
    obtain ⟨k, rfl⟩ : ∃ k, i2 = k + 1 := ⟨i2 - 1, by omega⟩
    have ek : Int.toNat (((k + 1 : Nat) : Int) - 1) = k := by omega
    rw [Go.Sort.partialIns_succ]
    by_cases hkb : k + 1 < b
    · have k1 : k + 1 < d.length := by omega
      have k0 : k < d.length := by omega
      have g1 := getA k1
      have g0 := getA k0
      have c1 := item_compare_walk d[k + 1] d[k]
      cases t : ltI d[k + 1] d[k] with
      | false =>
        have q := ltF t
        refine NP.mk (by kernel_rfl) ?_
        apply NDr.pure
        · exact ⟨rfl, rfl⟩
        apply NDr.pure
        · exact ⟨rfl, rfl⟩
        apply NDr.pure
        · refine ND.yes (by omega) ?_
          exact ⟨rfl, rfl⟩
        apply NDr.pure
        · exact ⟨rfl, rfl⟩
        apply NDr.pure
        · exact ⟨rfl, rfl⟩
        apply NDr.any
        · intro H'
          exact ⟨rfl, rfl⟩
        apply NDr.pure
        · exact ⟨rfl, rfl⟩
        apply NDr.rd [0]
        · intro fH TH
          refine NP.mk (by (simp only [List.length_map, List.length_append, List.length_replicate, List.length_cons, List.length_nil, List.length_take, List.length_drop]; omega)) ?_
          exact ⟨rfl, rfl⟩
        apply NDr.rd [0]
        · intro fH TH
          refine NG.map0N (by omega) ?_
          exact ⟨rfl, rfl⟩
        apply NDr.any
        · intro H'
          exact ⟨rfl, rfl⟩
        apply NDr.pure
        · exact ⟨rfl, rfl⟩
        apply NDr.pure
        · refine NW.i64 (by omega) (by omega) ?_
          exact ⟨rfl, rfl⟩
        apply NDr.rd [0]
        · intro fH TH
          refine NP.mk (by (simp only [List.length_map, List.length_append, List.length_replicate, List.length_cons, List.length_nil, List.length_take, List.length_drop]; omega)) ?_
          rw [(ek)]
          exact ⟨rfl, rfl⟩
        apply NDr.rd [0]
        · intro fH TH
          refine NG.map0N (by omega) ?_
          exact ⟨rfl, rfl⟩
        apply NDr.pure
        · refine NCall.call (c1) rfl rfl ?_
          exact ⟨rfl, rfl⟩
        apply NDr.pure
        · refine ND.no (by omega) ?_
          exact ⟨rfl, rfl⟩
        apply NDr.pure
        · exact ⟨rfl, rfl⟩
        apply NDr.pure
        · exact ⟨rfl, rfl⟩
        refine NP.mk (by kernel_rfl) ?_
        refine NW.i64 (by omega) (by omega) ?_
        exact Canon.mk [] rfl ⟨b - (k + 1 + 1), by omega, k + 1 + 1, by omega, by omega, rfl, by rw [← hu, scanSorted_go hkb (by rw [g1, Nat.add_sub_cancel, g0, t])], rfl, rfl⟩
      | true =>
        have q := ltT t
        have hst : scanSorted ltI d.toArray b i = k + 1 := by
          rw [← hu]
          exact scanSorted_stop (.inr (by rw [g1, Nat.add_sub_cancel, g0, t]))
        rw [hst, if_neg (by omega)]
        by_cases h50 : b - a < 50
        · rw [if_pos h50]
          refine NP.mk (by kernel_rfl) ?_
          apply NDr.pure
          · exact ⟨rfl, rfl⟩
          apply NDr.pure
          · exact ⟨rfl, rfl⟩
          apply NDr.pure
          · refine ND.yes (by omega) ?_
            exact ⟨rfl, rfl⟩
          apply NDr.pure
          · exact ⟨rfl, rfl⟩
          apply NDr.pure
          · exact ⟨rfl, rfl⟩
          apply NDr.any
          · intro H'
            exact ⟨rfl, rfl⟩
          apply NDr.pure
          · exact ⟨rfl, rfl⟩
          apply NDr.rd [0]
          · intro fH TH
            refine NP.mk (by (simp only [List.length_map, List.length_append, List.length_replicate, List.length_cons, List.length_nil, List.length_take, List.length_drop]; omega)) ?_
            exact ⟨rfl, rfl⟩
          apply NDr.rd [0]
          · intro fH TH
            refine NG.map0N (by omega) ?_
            exact ⟨rfl, rfl⟩
          apply NDr.any
          · intro H'
            exact ⟨rfl, rfl⟩
          apply NDr.pure
          · exact ⟨rfl, rfl⟩
          apply NDr.pure
          · refine NW.i64 (by omega) (by omega) ?_
            exact ⟨rfl, rfl⟩
          apply NDr.rd [0]
          · intro fH TH
            refine NP.mk (by (simp only [List.length_map, List.length_append, List.length_replicate, List.length_cons, List.length_nil, List.length_take, List.length_drop]; omega)) ?_
            rw [(ek)]
            exact ⟨rfl, rfl⟩
          apply NDr.rd [0]
          · intro fH TH
            refine NG.map0N (by omega) ?_
            exact ⟨rfl, rfl⟩
          apply NDr.pure
          · refine NCall.call (c1) rfl rfl ?_
            exact ⟨rfl, rfl⟩
          apply NDr.pure
          · refine ND.yes (by omega) ?_
            exact ⟨rfl, rfl⟩
          apply NDr.pure
          · exact ⟨rfl, rfl⟩
          apply NDr.pure
          · exact ⟨rfl, rfl⟩
          refine NP.mk (by kernel_rfl) ?_
          refine ND.no (by omega) ?_
          refine NW.i64 (by omega) (by omega) ?_
          refine ND.yes (by omega) ?_
          exact NRet.mk [] rfl ⟨.refl _, rfl⟩
        · rw [if_neg h50, Nat.add_sub_cancel, swpL_eq k1 k0]
          by_cases hdn : k + 1 - a ≥ 2
          · refine NP.mk (by kernel_rfl) ?_
            apply NDr.pure
            · exact ⟨rfl, rfl⟩
            apply NDr.pure
            · exact ⟨rfl, rfl⟩
            apply NDr.pure
            · refine ND.yes (by omega) ?_
              exact ⟨rfl, rfl⟩
            apply NDr.pure
            · exact ⟨rfl, rfl⟩
            apply NDr.pure
            · exact ⟨rfl, rfl⟩
            apply NDr.any
            · intro H'
              exact ⟨rfl, rfl⟩
            apply NDr.pure
            · exact ⟨rfl, rfl⟩
            apply NDr.rd [0]
            · intro fH TH
              refine NP.mk (by (simp only [List.length_map, List.length_append, List.length_replicate, List.length_cons, List.length_nil, List.length_take, List.length_drop]; omega)) ?_
              exact ⟨rfl, rfl⟩
            apply NDr.rd [0]
            · intro fH TH
              refine NG.map0N (by omega) ?_
              exact ⟨rfl, rfl⟩
            apply NDr.any
            · intro H'
              exact ⟨rfl, rfl⟩
            apply NDr.pure
            · exact ⟨rfl, rfl⟩
            apply NDr.pure
            · refine NW.i64 (by omega) (by omega) ?_
              exact ⟨rfl, rfl⟩
            apply NDr.rd [0]
            · intro fH TH
              refine NP.mk (by (simp only [List.length_map, List.length_append, List.length_replicate, List.length_cons, List.length_nil, List.length_take, List.length_drop]; omega)) ?_
              rw [(ek)]
              exact ⟨rfl, rfl⟩
            apply NDr.rd [0]
            · intro fH TH
              refine NG.map0N (by omega) ?_
              exact ⟨rfl, rfl⟩
            apply NDr.pure
            · refine NCall.call (c1) rfl rfl ?_
              exact ⟨rfl, rfl⟩
            apply NDr.pure
            · refine ND.yes (by omega) ?_
              exact ⟨rfl, rfl⟩
            apply NDr.pure
            · exact ⟨rfl, rfl⟩
            apply NDr.pure
            · exact ⟨rfl, rfl⟩
            refine NP.mk (by kernel_rfl) ?_
            refine ND.no (by omega) ?_
            refine NW.i64 (by omega) (by omega) ?_
            refine ND.no (by omega) ?_
            refine NP.mk (by kernel_rfl) ?_
            apply NDr.any
            · intro H'
              exact ⟨rfl, rfl⟩
            apply NDr.pure
            · exact ⟨rfl, rfl⟩
            apply NDr.any
            · intro H'
              exact ⟨rfl, rfl⟩
            apply NDr.pure
            · exact ⟨rfl, rfl⟩
            apply NDr.pure
            · refine NW.i64 (by omega) (by omega) ?_
              exact ⟨rfl, rfl⟩
            apply NDr.any
            · intro H'
              exact ⟨rfl, rfl⟩
            apply NDr.pure
            · exact ⟨rfl, rfl⟩
            apply NDr.pure
            · refine NW.i64 (by omega) (by omega) ?_
              exact ⟨rfl, rfl⟩
            apply NDr.rd [0]
            · intro fH TH
              refine NP.mk (by (simp only [List.length_map, List.length_append, List.length_replicate, List.length_cons, List.length_nil, List.length_take, List.length_drop]; omega)) ?_
              rw [(ek)]
              exact ⟨rfl, rfl⟩
            apply NDr.rd [0]
            · intro fH TH
              refine NG.map0N (by omega) ?_
              exact ⟨rfl, rfl⟩
            apply NDr.any
            · intro H'
              exact ⟨rfl, rfl⟩
            apply NDr.pure
            · exact ⟨rfl, rfl⟩
            apply NDr.rd [0]
            · intro fH TH
              refine NP.mk (by (simp only [List.length_map, List.length_append, List.length_replicate, List.length_cons, List.length_nil, List.length_take, List.length_drop]; omega)) ?_
              exact ⟨rfl, rfl⟩
            apply NDr.rd [0]
            · intro fH TH
              refine NG.map0N (by omega) ?_
              exact ⟨rfl, rfl⟩
            apply NDr.rd [0]
            · intro fH TH
              refine NP.mk (by (simp only [List.length_map, List.length_append, List.length_replicate, List.length_cons, List.length_nil, List.length_take, List.length_drop]; omega)) ?_
              exact ⟨rfl, rfl⟩
            apply NDr.efw [0]
            · refine NG.map0N (by omega) ?_
              exact ⟨rfl, rfl⟩
            · repeat (first | exact True.intro | refine ⟨by first | exact rfl | exact True.intro, ?_⟩)
            apply NDr.efw []
            · refine NP.mk (by (simp; omega)) ?_
              rw [(ek)]
              exact ⟨rfl, rfl⟩
            · repeat (first | exact True.intro | refine ⟨by first | exact rfl | exact True.intro, ?_⟩)
            apply NDr.efw [0]
            · refine NG.get (by simp; omega) ?_
              exact ⟨rfl, rfl⟩
            · repeat (first | exact True.intro | refine ⟨by first | exact rfl | exact True.intro, ?_⟩)
            refine NP.mk (by kernel_rfl) ?_
            refine NW.i64 (by omega) (by omega) ?_
            refine ND.yes (by omega) ?_
            refine NW.i64 (by omega) (by omega) ?_
            refine NLoop.mk [] [0, 1, 2, 3, 9, 10, 11] (fun m vs H => ∃ (j : Nat) (e : List Item), j = m ∧ j ≤ k ∧ e.length = l.length ∧ shiftDown ltI j e.toArray = shiftDown ltI k (swpL d (k + 1) k k1 k0).toArray ∧ H = [.row .vrow (.agg 8) (e.map itemA)] ∧
              vs = [.own 0 0 l.length, i64 a, i64 b, .fn Nm.item_compare [], i64 (k + 1 : Nat), i64 (5 - (s + 1) : Nat), i64 j]) rfl ?_ ?_
            · exact Canon.mk [] rfl ⟨_, k, swpL d (k + 1) k k1 k0, rfl, Nat.le_refl _, (swpL_len k1 k0).trans hdl, rfl, by rw [← swpL_row k1 k0, Nat.zero_add, Nat.zero_add]; rfl, by rw [show (((k + 1 : Nat) : Int) - 1) = (k : Int) by omega]; rfl⟩
            rintro m vs H ⟨j, e, rfl, hjk, hel, hes, rfl, rfl⟩
            have hD : ∀ g, shiftDown ltI j e.toArray = g → fixDown ltI a (k + 1) (swpL d (k + 1) k k1 k0).toArray = g := fun g hg => by unfold fixDown; rw [if_pos hdn, Nat.add_sub_cancel, ← hes, hg]
            clear c1 q t g1 g0
            cases j with
            | zero =>
              have hD := hD e.toArray rfl
              by_cases hup : b - (k + 1) ≥ 2
              · refine ND.no (by omega) ?_
                refine NW.i64 (by omega) (by omega) ?_
                refine ND.yes (by omega) ?_
                refine NW.i64 (by omega) (by omega) ?_
                have e12 : ((k + 1 : Nat) : Int) + 1 = ((k + 2 : Nat) : Int) := by omega
                refine NLoop.mk [] [0, 1, 2, 3, 9, 10, 12] (fun m vs H => ∃ (j : Nat) (f : List Item), k + 2 ≤ j ∧ j ≤ b ∧ m = b - j ∧ f.length = l.length ∧ shiftUp ltI b j f.toArray = shiftUp ltI b (k + 2) e.toArray ∧ H = [.row .vrow (.agg 8) (f.map itemA)] ∧ vs = [.own 0 0 l.length, i64 a, i64 b, .fn Nm.item_compare [], i64 (k + 1 : Nat), i64 (5 - (s + 1) : Nat), i64 j]) rfl ?_ ?_
                · exact Canon.mk [] rfl ⟨_, k + 2, e, Nat.le_refl _, by omega, rfl, hel, rfl, rfl, rfl⟩
                rintro m vs H ⟨j, f, hj, hjb, rfl, hfl, hf, rfl, rfl⟩
                obtain ⟨q, rfl⟩ : ∃ q, j = q + 1 := ⟨j - 1, by omega⟩
                have eq : Int.toNat (((q + 1 : Nat) : Int) - 1) = q := by omega
                have hU : ∀ g, shiftUp ltI b (q + 1) f.toArray = g → fixUp ltI b (k + 1) e.toArray = g := fun g hg => by unfold fixUp; rw [if_pos hup, ← hf, hg]
                by_cases hqb : q + 1 < b
                · have z1 : q + 1 < f.length := by omega
                  have z0 : q < f.length := by omega
                  have y1 := getA z1
                  have y0 := getA z0
                  have c2 := item_compare_walk f[q + 1] f[q]
                  cases t2 : ltI f[q + 1] f[q] with
                  | true =>
                    have q2 := ltT t2
                    refine ND.yes (by omega) ?_
                    refine NP.mk (by kernel_rfl) ?_
                    apply NDr.pure
                    · exact ⟨rfl, rfl⟩
                    apply NDr.any
                    · intro H'
                      exact ⟨rfl, rfl⟩
                    apply NDr.pure
                    · exact ⟨rfl, rfl⟩
                    apply NDr.rd [0]
                    · intro fH TH
                      refine NP.mk (by (simp only [List.length_map, List.length_append, List.length_replicate, List.length_cons, List.length_nil, List.length_take, List.length_drop]; omega)) ?_
                      exact ⟨rfl, rfl⟩
                    apply NDr.rd [0]
                    · intro fH TH
                      refine NG.map0N (by omega) ?_
                      exact ⟨rfl, rfl⟩
                    apply NDr.any
                    · intro H'
                      exact ⟨rfl, rfl⟩
                    apply NDr.pure
                    · exact ⟨rfl, rfl⟩
                    apply NDr.pure
                    · refine NW.i64 (by omega) (by omega) ?_
                      exact ⟨rfl, rfl⟩
                    apply NDr.rd [0]
                    · intro fH TH
                      refine NP.mk (by (simp only [List.length_map, List.length_append, List.length_replicate, List.length_cons, List.length_nil, List.length_take, List.length_drop]; omega)) ?_
                      rw [(eq)]
                      exact ⟨rfl, rfl⟩
                    apply NDr.rd [0]
                    · intro fH TH
                      refine NG.map0N (by omega) ?_
                      exact ⟨rfl, rfl⟩
                    apply NDr.pure
                    · refine NCall.call (c2) rfl rfl ?_
                      exact ⟨rfl, rfl⟩
                    apply NDr.pure
                    · refine ND.yes (by omega) ?_
                      exact ⟨rfl, rfl⟩
                    apply NDr.pure
                    · exact ⟨rfl, rfl⟩
                    refine NP.mk (by kernel_rfl) ?_
                    refine NP.mk (by kernel_rfl) ?_
                    apply NDr.any
                    · intro H'
                      exact ⟨rfl, rfl⟩
                    apply NDr.pure
                    · exact ⟨rfl, rfl⟩
                    apply NDr.any
                    · intro H'
                      exact ⟨rfl, rfl⟩
                    apply NDr.pure
                    · exact ⟨rfl, rfl⟩
                    apply NDr.pure
                    · refine NW.i64 (by omega) (by omega) ?_
                      exact ⟨rfl, rfl⟩
                    apply NDr.any
                    · intro H'
                      exact ⟨rfl, rfl⟩
                    apply NDr.pure
                    · exact ⟨rfl, rfl⟩
                    apply NDr.pure
                    · refine NW.i64 (by omega) (by omega) ?_
                      exact ⟨rfl, rfl⟩
                    apply NDr.rd [0]
                    · intro fH TH
                      refine NP.mk (by (simp only [List.length_map, List.length_append, List.length_replicate, List.length_cons, List.length_nil, List.length_take, List.length_drop]; omega)) ?_
                      rw [(eq)]
                      exact ⟨rfl, rfl⟩
                    apply NDr.rd [0]
                    · intro fH TH
                      refine NG.map0N (by omega) ?_
                      exact ⟨rfl, rfl⟩
                    apply NDr.any
                    · intro H'
                      exact ⟨rfl, rfl⟩
                    apply NDr.pure
                    · exact ⟨rfl, rfl⟩
                    apply NDr.rd [0]
                    · intro fH TH
                      refine NP.mk (by (simp only [List.length_map, List.length_append, List.length_replicate, List.length_cons, List.length_nil, List.length_take, List.length_drop]; omega)) ?_
                      exact ⟨rfl, rfl⟩
                    apply NDr.rd [0]
                    · intro fH TH
                      refine NG.map0N (by omega) ?_
                      exact ⟨rfl, rfl⟩
                    apply NDr.rd [0]
                    · intro fH TH
                      refine NP.mk (by (simp only [List.length_map, List.length_append, List.length_replicate, List.length_cons, List.length_nil, List.length_take, List.length_drop]; omega)) ?_
                      exact ⟨rfl, rfl⟩
                    apply NDr.efw [0]
                    · refine NG.map0N (by omega) ?_
                      exact ⟨rfl, rfl⟩
                    · repeat (first | exact True.intro | refine ⟨by first | exact rfl | exact True.intro, ?_⟩)
                    apply NDr.efw []
                    · refine NP.mk (by (simp; omega)) ?_
                      rw [(eq)]
                      exact ⟨rfl, rfl⟩
                    · repeat (first | exact True.intro | refine ⟨by first | exact rfl | exact True.intro, ?_⟩)
                    apply NDr.efw [0]
                    · refine NG.get (by simp; omega) ?_
                      exact ⟨rfl, rfl⟩
                    · repeat (first | exact True.intro | refine ⟨by first | exact rfl | exact True.intro, ?_⟩)
                    refine NP.mk (by kernel_rfl) ?_
                    refine NW.i64 (by omega) (by omega) ?_
                    exact Canon.mk [] rfl ⟨b - (q + 1 + 1), by omega, q + 1 + 1, swpL f (q + 1) q z1 z0, by omega, by omega, rfl, (swpL_len z1 z0).trans hfl, by rw [← hf, shiftUp.eq_def (j := q + 1), if_pos hqb, y1, Nat.add_sub_cancel, y0, t2, if_neg (by simp), swpL_eq z1 z0], by rw [← swpL_row z1 z0, Nat.zero_add, Nat.zero_add]; rfl, rfl⟩
                  | false =>
                    have q2 := ltF t2
                    have hU := hU f.toArray (by rw [shiftUp.eq_def, if_pos hqb, y1, Nat.add_sub_cancel, y0, t2, if_pos (by simp)])
                    refine ND.yes (by omega) ?_
                    refine NP.mk (by kernel_rfl) ?_
                    apply NDr.pure
                    · exact ⟨rfl, rfl⟩
                    apply NDr.any
                    · intro H'
                      exact ⟨rfl, rfl⟩
                    apply NDr.pure
                    · exact ⟨rfl, rfl⟩
                    apply NDr.rd [0]
                    · intro fH TH
                      refine NP.mk (by (simp only [List.length_map, List.length_append, List.length_replicate, List.length_cons, List.length_nil, List.length_take, List.length_drop]; omega)) ?_
                      exact ⟨rfl, rfl⟩
                    apply NDr.rd [0]
                    · intro fH TH
                      refine NG.map0N (by omega) ?_
                      exact ⟨rfl, rfl⟩
                    apply NDr.any
                    · intro H'
                      exact ⟨rfl, rfl⟩
                    apply NDr.pure
                    · exact ⟨rfl, rfl⟩
                    apply NDr.pure
                    · refine NW.i64 (by omega) (by omega) ?_
                      exact ⟨rfl, rfl⟩
                    apply NDr.rd [0]
                    · intro fH TH
                      refine NP.mk (by (simp only [List.length_map, List.length_append, List.length_replicate, List.length_cons, List.length_nil, List.length_take, List.length_drop]; omega)) ?_
                      rw [(eq)]
                      exact ⟨rfl, rfl⟩
                    apply NDr.rd [0]
                    · intro fH TH
                      refine NG.map0N (by omega) ?_
                      exact ⟨rfl, rfl⟩
                    apply NDr.pure
                    · refine NCall.call (c2) rfl rfl ?_
                      exact ⟨rfl, rfl⟩
                    apply NDr.pure
                    · refine ND.no (by omega) ?_
                      exact ⟨rfl, rfl⟩
                    apply NDr.pure
                    · exact ⟨rfl, rfl⟩
                    refine NP.mk (by kernel_rfl) ?_
                    refine NW.i64 (by omega) (by omega) ?_
                    exact Canon.mk [] rfl ⟨s, by omega, s, k + 1, f, by omega, rfl, by omega, by omega, hfl, by rw [hD, hU], rfl, by rw [e5]; rfl⟩
                · have hU := hU f.toArray (by rw [shiftUp.eq_def, if_neg hqb])
                  refine ND.no (by omega) ?_
                  refine NW.i64 (by omega) (by omega) ?_
                  exact Canon.mk [] rfl ⟨s, by omega, s, k + 1, f, by omega, rfl, by omega, by omega, hfl, by rw [hD, hU], rfl, by rw [e5]; rfl⟩
              · have hU : fixUp ltI b (k + 1) e.toArray = e.toArray := by unfold fixUp; rw [if_neg hup]
                refine ND.no (by omega) ?_
                refine NW.i64 (by omega) (by omega) ?_
                refine ND.no (by omega) ?_
                refine NW.i64 (by omega) (by omega) ?_
                exact Canon.mk [] rfl ⟨s, by omega, s, k + 1, e, by omega, rfl, by omega, by omega, hel, by rw [hD, hU], rfl, by rw [e5]; rfl⟩
            | succ q =>
              have eq0 : Int.toNat (((q + 1 : Nat) : Int) - 1) = q := by omega
              have z1 : q + 1 < e.length := by omega
              have z0 : q < e.length := by omega
              have y1 := getA z1
              have y0 := getA z0
              have c2 := item_compare_walk e[q + 1] e[q]
              cases t2 : ltI e[q + 1] e[q] with
              | true =>
                have q2 := ltT t2
                refine ND.yes (by omega) ?_
                refine NP.mk (by kernel_rfl) ?_
                apply NDr.pure
                · exact ⟨rfl, rfl⟩
                apply NDr.any
                · intro H'
                  exact ⟨rfl, rfl⟩
                apply NDr.pure
                · exact ⟨rfl, rfl⟩
                apply NDr.rd [0]
                · intro fH TH
                  refine NP.mk (by (simp only [List.length_map, List.length_append, List.length_replicate, List.length_cons, List.length_nil, List.length_take, List.length_drop]; omega)) ?_
                  exact ⟨rfl, rfl⟩
                apply NDr.rd [0]
                · intro fH TH
                  refine NG.map0N (by omega) ?_
                  exact ⟨rfl, rfl⟩
                apply NDr.any
                · intro H'
                  exact ⟨rfl, rfl⟩
                apply NDr.pure
                · exact ⟨rfl, rfl⟩
                apply NDr.pure
                · refine NW.i64 (by omega) (by omega) ?_
                  exact ⟨rfl, rfl⟩
                apply NDr.rd [0]
                · intro fH TH
                  refine NP.mk (by (simp only [List.length_map, List.length_append, List.length_replicate, List.length_cons, List.length_nil, List.length_take, List.length_drop]; omega)) ?_
                  rw [(eq0)]
                  exact ⟨rfl, rfl⟩
                apply NDr.rd [0]
                · intro fH TH
                  refine NG.map0N (by omega) ?_
                  exact ⟨rfl, rfl⟩
                apply NDr.pure
                · refine NCall.call (c2) rfl rfl ?_
                  exact ⟨rfl, rfl⟩
                apply NDr.pure
                · refine ND.yes (by omega) ?_
                  exact ⟨rfl, rfl⟩
                apply NDr.pure
                · exact ⟨rfl, rfl⟩
                refine NP.mk (by kernel_rfl) ?_
                refine NP.mk (by kernel_rfl) ?_
                apply NDr.any
                · intro H'
                  exact ⟨rfl, rfl⟩
                apply NDr.pure
                · exact ⟨rfl, rfl⟩
                apply NDr.any
                · intro H'
                  exact ⟨rfl, rfl⟩
                apply NDr.pure
                · exact ⟨rfl, rfl⟩
                apply NDr.pure
                · refine NW.i64 (by omega) (by omega) ?_
                  exact ⟨rfl, rfl⟩
                apply NDr.any
                · intro H'
                  exact ⟨rfl, rfl⟩
                apply NDr.pure
                · exact ⟨rfl, rfl⟩
                apply NDr.pure
                · refine NW.i64 (by omega) (by omega) ?_
                  exact ⟨rfl, rfl⟩
                apply NDr.rd [0]
                · intro fH TH
                  refine NP.mk (by (simp only [List.length_map, List.length_append, List.length_replicate, List.length_cons, List.length_nil, List.length_take, List.length_drop]; omega)) ?_
                  rw [(eq0)]
                  exact ⟨rfl, rfl⟩
                apply NDr.rd [0]
                · intro fH TH
                  refine NG.map0N (by omega) ?_
                  exact ⟨rfl, rfl⟩
                apply NDr.any
                · intro H'
                  exact ⟨rfl, rfl⟩
                apply NDr.pure
                · exact ⟨rfl, rfl⟩
                apply NDr.rd [0]
                · intro fH TH
                  refine NP.mk (by (simp only [List.length_map, List.length_append, List.length_replicate, List.length_cons, List.length_nil, List.length_take, List.length_drop]; omega)) ?_
                  exact ⟨rfl, rfl⟩
                apply NDr.rd [0]
                · intro fH TH
                  refine NG.map0N (by omega) ?_
                  exact ⟨rfl, rfl⟩
                apply NDr.rd [0]
                · intro fH TH
                  refine NP.mk (by (simp only [List.length_map, List.length_append, List.length_replicate, List.length_cons, List.length_nil, List.length_take, List.length_drop]; omega)) ?_
                  exact ⟨rfl, rfl⟩
                apply NDr.efw [0]
                · refine NG.map0N (by omega) ?_
                  exact ⟨rfl, rfl⟩
                · repeat (first | exact True.intro | refine ⟨by first | exact rfl | exact True.intro, ?_⟩)
                apply NDr.efw []
                · refine NP.mk (by (simp; omega)) ?_
                  rw [(eq0)]
                  exact ⟨rfl, rfl⟩
                · repeat (first | exact True.intro | refine ⟨by first | exact rfl | exact True.intro, ?_⟩)
                apply NDr.efw [0]
                · refine NG.get (by simp; omega) ?_
                  exact ⟨rfl, rfl⟩
                · repeat (first | exact True.intro | refine ⟨by first | exact rfl | exact True.intro, ?_⟩)
                refine NP.mk (by kernel_rfl) ?_
                refine NW.i64 (by omega) (by omega) ?_
                exact Canon.mk [] rfl ⟨q, by omega, q, swpL e (q + 1) q z1 z0, rfl, by omega, (swpL_len z1 z0).trans hel, by rw [← hes, shiftDown, y1, y0, t2, if_neg (by simp), swpL_eq z1 z0], by rw [← swpL_row z1 z0, Nat.zero_add, Nat.zero_add]; rfl, by rw [show (((q + 1 : Nat) : Int) - 1) = (q : Int) by omega]; rfl⟩
              | false =>
                have q2 := ltF t2
                have hD := hD e.toArray (by rw [shiftDown, y1, y0, t2, if_pos (by simp)])
                clear y1 y0
                by_cases hup : b - (k + 1) ≥ 2
                · refine ND.yes (by omega) ?_
                  refine NP.mk (by kernel_rfl) ?_
                  apply NDr.pure
                  · exact ⟨rfl, rfl⟩
                  apply NDr.any
                  · intro H'
                    exact ⟨rfl, rfl⟩
                  apply NDr.pure
                  · exact ⟨rfl, rfl⟩
                  apply NDr.rd [0]
                  · intro fH TH
                    refine NP.mk (by (simp only [List.length_map, List.length_append, List.length_replicate, List.length_cons, List.length_nil, List.length_take, List.length_drop]; omega)) ?_
                    exact ⟨rfl, rfl⟩
                  apply NDr.rd [0]
                  · intro fH TH
                    refine NG.map0N (by omega) ?_
                    exact ⟨rfl, rfl⟩
                  apply NDr.any
                  · intro H'
                    exact ⟨rfl, rfl⟩
                  apply NDr.pure
                  · exact ⟨rfl, rfl⟩
                  apply NDr.pure
                  · refine NW.i64 (by omega) (by omega) ?_
                    exact ⟨rfl, rfl⟩
                  apply NDr.rd [0]
                  · intro fH TH
                    refine NP.mk (by (simp only [List.length_map, List.length_append, List.length_replicate, List.length_cons, List.length_nil, List.length_take, List.length_drop]; omega)) ?_
                    rw [(eq0)]
                    exact ⟨rfl, rfl⟩
                  apply NDr.rd [0]
                  · intro fH TH
                    refine NG.map0N (by omega) ?_
                    exact ⟨rfl, rfl⟩
                  apply NDr.pure
                  · refine NCall.call (c2) rfl rfl ?_
                    exact ⟨rfl, rfl⟩
                  apply NDr.pure
                  · refine ND.no (by omega) ?_
                    exact ⟨rfl, rfl⟩
                  apply NDr.pure
                  · exact ⟨rfl, rfl⟩
                  refine NP.mk (by kernel_rfl) ?_
                  refine NW.i64 (by omega) (by omega) ?_
                  refine ND.yes (by omega) ?_
                  refine NW.i64 (by omega) (by omega) ?_
                  have e12 : ((k + 1 : Nat) : Int) + 1 = ((k + 2 : Nat) : Int) := by omega
                  refine NLoop.mk [] [0, 1, 2, 3, 9, 10, 12] (fun m vs H => ∃ (j : Nat) (f : List Item), k + 2 ≤ j ∧ j ≤ b ∧ m = b - j ∧ f.length = l.length ∧ shiftUp ltI b j f.toArray = shiftUp ltI b (k + 2) e.toArray ∧ H = [.row .vrow (.agg 8) (f.map itemA)] ∧ vs = [.own 0 0 l.length, i64 a, i64 b, .fn Nm.item_compare [], i64 (k + 1 : Nat), i64 (5 - (s + 1) : Nat), i64 j]) rfl ?_ ?_
                  · exact Canon.mk [] rfl ⟨_, k + 2, e, Nat.le_refl _, by omega, rfl, hel, rfl, rfl, rfl⟩
                  rintro m vs H ⟨j, f, hj, hjb, rfl, hfl, hf, rfl, rfl⟩
                  obtain ⟨q, rfl⟩ : ∃ q, j = q + 1 := ⟨j - 1, by omega⟩
                  have eq : Int.toNat (((q + 1 : Nat) : Int) - 1) = q := by omega
                  have hU : ∀ g, shiftUp ltI b (q + 1) f.toArray = g → fixUp ltI b (k + 1) e.toArray = g := fun g hg => by unfold fixUp; rw [if_pos hup, ← hf, hg]
                  by_cases hqb : q + 1 < b
                  · have z1 : q + 1 < f.length := by omega
                    have z0 : q < f.length := by omega
                    have y1 := getA z1
                    have y0 := getA z0
                    have c2 := item_compare_walk f[q + 1] f[q]
                    cases t2 : ltI f[q + 1] f[q] with
                    | true =>
                      have q2 := ltT t2
                      refine ND.yes (by omega) ?_
                      refine NP.mk (by kernel_rfl) ?_
                      apply NDr.pure
                      · exact ⟨rfl, rfl⟩
                      apply NDr.any
                      · intro H'
                        exact ⟨rfl, rfl⟩
                      apply NDr.pure
                      · exact ⟨rfl, rfl⟩
                      apply NDr.rd [0]
                      · intro fH TH
                        refine NP.mk (by (simp only [List.length_map, List.length_append, List.length_replicate, List.length_cons, List.length_nil, List.length_take, List.length_drop]; omega)) ?_
                        exact ⟨rfl, rfl⟩
                      apply NDr.rd [0]
                      · intro fH TH
                        refine NG.map0N (by omega) ?_
                        exact ⟨rfl, rfl⟩
                      apply NDr.any
                      · intro H'
                        exact ⟨rfl, rfl⟩
                      apply NDr.pure
                      · exact ⟨rfl, rfl⟩
                      apply NDr.pure
                      · refine NW.i64 (by omega) (by omega) ?_
                        exact ⟨rfl, rfl⟩
                      apply NDr.rd [0]
                      · intro fH TH
                        refine NP.mk (by (simp only [List.length_map, List.length_append, List.length_replicate, List.length_cons, List.length_nil, List.length_take, List.length_drop]; omega)) ?_
                        rw [(eq)]
                        exact ⟨rfl, rfl⟩
                      apply NDr.rd [0]
                      · intro fH TH
                        refine NG.map0N (by omega) ?_
                        exact ⟨rfl, rfl⟩
                      apply NDr.pure
                      · refine NCall.call (c2) rfl rfl ?_
                        exact ⟨rfl, rfl⟩
                      apply NDr.pure
                      · refine ND.yes (by omega) ?_
                        exact ⟨rfl, rfl⟩
                      apply NDr.pure
                      · exact ⟨rfl, rfl⟩
                      refine NP.mk (by kernel_rfl) ?_
                      refine NP.mk (by kernel_rfl) ?_
                      apply NDr.any
                      · intro H'
                        exact ⟨rfl, rfl⟩
                      apply NDr.pure
                      · exact ⟨rfl, rfl⟩
                      apply NDr.any
                      · intro H'
                        exact ⟨rfl, rfl⟩
                      apply NDr.pure
                      · exact ⟨rfl, rfl⟩
                      apply NDr.pure
                      · refine NW.i64 (by omega) (by omega) ?_
                        exact ⟨rfl, rfl⟩
                      apply NDr.any
                      · intro H'
                        exact ⟨rfl, rfl⟩
                      apply NDr.pure
                      · exact ⟨rfl, rfl⟩
                      apply NDr.pure
                      · refine NW.i64 (by omega) (by omega) ?_
                        exact ⟨rfl, rfl⟩
                      apply NDr.rd [0]
                      · intro fH TH
                        refine NP.mk (by (simp only [List.length_map, List.length_append, List.length_replicate, List.length_cons, List.length_nil, List.length_take, List.length_drop]; omega)) ?_
                        rw [(eq)]
                        exact ⟨rfl, rfl⟩
                      apply NDr.rd [0]
                      · intro fH TH
                        refine NG.map0N (by omega) ?_
                        exact ⟨rfl, rfl⟩
                      apply NDr.any
                      · intro H'
                        exact ⟨rfl, rfl⟩
                      apply NDr.pure
                      · exact ⟨rfl, rfl⟩
                      apply NDr.rd [0]
                      · intro fH TH
                        refine NP.mk (by (simp only [List.length_map, List.length_append, List.length_replicate, List.length_cons, List.length_nil, List.length_take, List.length_drop]; omega)) ?_
                        exact ⟨rfl, rfl⟩
                      apply NDr.rd [0]
                      · intro fH TH
                        refine NG.map0N (by omega) ?_
                        exact ⟨rfl, rfl⟩
                      apply NDr.rd [0]
                      · intro fH TH
                        refine NP.mk (by (simp only [List.length_map, List.length_append, List.length_replicate, List.length_cons, List.length_nil, List.length_take, List.length_drop]; omega)) ?_
                        exact ⟨rfl, rfl⟩
                      apply NDr.efw [0]
                      · refine NG.map0N (by omega) ?_
                        exact ⟨rfl, rfl⟩
                      · repeat (first | exact True.intro | refine ⟨by first | exact rfl | exact True.intro, ?_⟩)
                      apply NDr.efw []
                      · refine NP.mk (by (simp; omega)) ?_
                        rw [(eq)]
                        exact ⟨rfl, rfl⟩
                      · repeat (first | exact True.intro | refine ⟨by first | exact rfl | exact True.intro, ?_⟩)
                      apply NDr.efw [0]
                      · refine NG.get (by simp; omega) ?_
                        exact ⟨rfl, rfl⟩
                      · repeat (first | exact True.intro | refine ⟨by first | exact rfl | exact True.intro, ?_⟩)
                      refine NP.mk (by kernel_rfl) ?_
                      refine NW.i64 (by omega) (by omega) ?_
                      exact Canon.mk [] rfl ⟨b - (q + 1 + 1), by omega, q + 1 + 1, swpL f (q + 1) q z1 z0, by omega, by omega, rfl, (swpL_len z1 z0).trans hfl, by rw [← hf, shiftUp.eq_def (j := q + 1), if_pos hqb, y1, Nat.add_sub_cancel, y0, t2, if_neg (by simp), swpL_eq z1 z0], by rw [← swpL_row z1 z0, Nat.zero_add, Nat.zero_add]; rfl, rfl⟩
                    | false =>
                      have q2 := ltF t2
                      have hU := hU f.toArray (by rw [shiftUp.eq_def, if_pos hqb, y1, Nat.add_sub_cancel, y0, t2, if_pos (by simp)])
                      refine ND.yes (by omega) ?_
                      refine NP.mk (by kernel_rfl) ?_
                      apply NDr.pure
                      · exact ⟨rfl, rfl⟩
                      apply NDr.any
                      · intro H'
                        exact ⟨rfl, rfl⟩
                      apply NDr.pure
                      · exact ⟨rfl, rfl⟩
                      apply NDr.rd [0]
                      · intro fH TH
                        refine NP.mk (by (simp only [List.length_map, List.length_append, List.length_replicate, List.length_cons, List.length_nil, List.length_take, List.length_drop]; omega)) ?_
                        exact ⟨rfl, rfl⟩
                      apply NDr.rd [0]
                      · intro fH TH
                        refine NG.map0N (by omega) ?_
                        exact ⟨rfl, rfl⟩
                      apply NDr.any
                      · intro H'
                        exact ⟨rfl, rfl⟩
                      apply NDr.pure
                      · exact ⟨rfl, rfl⟩
                      apply NDr.pure
                      · refine NW.i64 (by omega) (by omega) ?_
                        exact ⟨rfl, rfl⟩
                      apply NDr.rd [0]
                      · intro fH TH
                        refine NP.mk (by (simp only [List.length_map, List.length_append, List.length_replicate, List.length_cons, List.length_nil, List.length_take, List.length_drop]; omega)) ?_
                        rw [(eq)]
                        exact ⟨rfl, rfl⟩
                      apply NDr.rd [0]
                      · intro fH TH
                        refine NG.map0N (by omega) ?_
                        exact ⟨rfl, rfl⟩
                      apply NDr.pure
                      · refine NCall.call (c2) rfl rfl ?_
                        exact ⟨rfl, rfl⟩
                      apply NDr.pure
                      · refine ND.no (by omega) ?_
                        exact ⟨rfl, rfl⟩
                      apply NDr.pure
                      · exact ⟨rfl, rfl⟩
                      refine NP.mk (by kernel_rfl) ?_
                      refine NW.i64 (by omega) (by omega) ?_
                      exact Canon.mk [] rfl ⟨s, by omega, s, k + 1, f, by omega, rfl, by omega, by omega, hfl, by rw [hD, hU], rfl, by rw [e5]; rfl⟩
                  · have hU := hU f.toArray (by rw [shiftUp.eq_def, if_neg hqb])
                    refine ND.no (by omega) ?_
                    refine NW.i64 (by omega) (by omega) ?_
                    exact Canon.mk [] rfl ⟨s, by omega, s, k + 1, f, by omega, rfl, by omega, by omega, hfl, by rw [hD, hU], rfl, by rw [e5]; rfl⟩
                · have hU : fixUp ltI b (k + 1) e.toArray = e.toArray := by unfold fixUp; rw [if_neg hup]
                  refine ND.yes (by omega) ?_
                  refine NP.mk (by kernel_rfl) ?_
                  apply NDr.pure
                  · exact ⟨rfl, rfl⟩
                  apply NDr.any
                  · intro H'
                    exact ⟨rfl, rfl⟩
                  apply NDr.pure
                  · exact ⟨rfl, rfl⟩
                  apply NDr.rd [0]
                  · intro fH TH
                    refine NP.mk (by (simp only [List.length_map, List.length_append, List.length_replicate, List.length_cons, List.length_nil, List.length_take, List.length_drop]; omega)) ?_
                    exact ⟨rfl, rfl⟩
                  apply NDr.rd [0]
                  · intro fH TH
                    refine NG.map0N (by omega) ?_
                    exact ⟨rfl, rfl⟩
                  apply NDr.any
                  · intro H'
                    exact ⟨rfl, rfl⟩
                  apply NDr.pure
                  · exact ⟨rfl, rfl⟩
                  apply NDr.pure
                  · refine NW.i64 (by omega) (by omega) ?_
                    exact ⟨rfl, rfl⟩
                  apply NDr.rd [0]
                  · intro fH TH
                    refine NP.mk (by (simp only [List.length_map, List.length_append, List.length_replicate, List.length_cons, List.length_nil, List.length_take, List.length_drop]; omega)) ?_
                    rw [(eq0)]
                    exact ⟨rfl, rfl⟩
                  apply NDr.rd [0]
                  · intro fH TH
                    refine NG.map0N (by omega) ?_
                    exact ⟨rfl, rfl⟩
                  apply NDr.pure
                  · refine NCall.call (c2) rfl rfl ?_
                    exact ⟨rfl, rfl⟩
                  apply NDr.pure
                  · refine ND.no (by omega) ?_
                    exact ⟨rfl, rfl⟩
                  apply NDr.pure
                  · exact ⟨rfl, rfl⟩
                  refine NP.mk (by kernel_rfl) ?_
                  refine NW.i64 (by omega) (by omega) ?_
                  refine ND.no (by omega) ?_
                  refine NW.i64 (by omega) (by omega) ?_
                  exact Canon.mk [] rfl ⟨s, by omega, s, k + 1, e, by omega, rfl, by omega, by omega, hel, by rw [hD, hU], rfl, by rw [e5]; rfl⟩
          · have hD : fixDown ltI a (k + 1) (swpL d (k + 1) k k1 k0).toArray = (swpL d (k + 1) k k1 k0).toArray := by unfold fixDown; rw [if_neg hdn]
            by_cases hup : b - (k + 1) ≥ 2
            · refine NP.mk (by kernel_rfl) ?_
              apply NDr.pure
              · exact ⟨rfl, rfl⟩
              apply NDr.pure
              · exact ⟨rfl, rfl⟩
              apply NDr.pure
              · refine ND.yes (by omega) ?_
                exact ⟨rfl, rfl⟩
              apply NDr.pure
              · exact ⟨rfl, rfl⟩
              apply NDr.pure
              · exact ⟨rfl, rfl⟩
              apply NDr.any
              · intro H'
                exact ⟨rfl, rfl⟩
              apply NDr.pure
              · exact ⟨rfl, rfl⟩
              apply NDr.rd [0]
              · intro fH TH
                refine NP.mk (by (simp only [List.length_map, List.length_append, List.length_replicate, List.length_cons, List.length_nil, List.length_take, List.length_drop]; omega)) ?_
                exact ⟨rfl, rfl⟩
              apply NDr.rd [0]
              · intro fH TH
                refine NG.map0N (by omega) ?_
                exact ⟨rfl, rfl⟩
              apply NDr.any
              · intro H'
                exact ⟨rfl, rfl⟩
              apply NDr.pure
              · exact ⟨rfl, rfl⟩
              apply NDr.pure
              · refine NW.i64 (by omega) (by omega) ?_
                exact ⟨rfl, rfl⟩
              apply NDr.rd [0]
              · intro fH TH
                refine NP.mk (by (simp only [List.length_map, List.length_append, List.length_replicate, List.length_cons, List.length_nil, List.length_take, List.length_drop]; omega)) ?_
                rw [(ek)]
                exact ⟨rfl, rfl⟩
              apply NDr.rd [0]
              · intro fH TH
                refine NG.map0N (by omega) ?_
                exact ⟨rfl, rfl⟩
              apply NDr.pure
              · refine NCall.call (c1) rfl rfl ?_
                exact ⟨rfl, rfl⟩
              apply NDr.pure
              · refine ND.yes (by omega) ?_
                exact ⟨rfl, rfl⟩
              apply NDr.pure
              · exact ⟨rfl, rfl⟩
              apply NDr.pure
              · exact ⟨rfl, rfl⟩
              refine NP.mk (by kernel_rfl) ?_
              refine ND.no (by omega) ?_
              refine NW.i64 (by omega) (by omega) ?_
              refine ND.no (by omega) ?_
              refine NP.mk (by kernel_rfl) ?_
              apply NDr.any
              · intro H'
                exact ⟨rfl, rfl⟩
              apply NDr.pure
              · exact ⟨rfl, rfl⟩
              apply NDr.any
              · intro H'
                exact ⟨rfl, rfl⟩
              apply NDr.pure
              · exact ⟨rfl, rfl⟩
              apply NDr.pure
              · refine NW.i64 (by omega) (by omega) ?_
                exact ⟨rfl, rfl⟩
              apply NDr.any
              · intro H'
                exact ⟨rfl, rfl⟩
              apply NDr.pure
              · exact ⟨rfl, rfl⟩
              apply NDr.pure
              · refine NW.i64 (by omega) (by omega) ?_
                exact ⟨rfl, rfl⟩
              apply NDr.rd [0]
              · intro fH TH
                refine NP.mk (by (simp only [List.length_map, List.length_append, List.length_replicate, List.length_cons, List.length_nil, List.length_take, List.length_drop]; omega)) ?_
                rw [(ek)]
                exact ⟨rfl, rfl⟩
              apply NDr.rd [0]
              · intro fH TH
                refine NG.map0N (by omega) ?_
                exact ⟨rfl, rfl⟩
              apply NDr.any
              · intro H'
                exact ⟨rfl, rfl⟩
              apply NDr.pure
              · exact ⟨rfl, rfl⟩
              apply NDr.rd [0]
              · intro fH TH
                refine NP.mk (by (simp only [List.length_map, List.length_append, List.length_replicate, List.length_cons, List.length_nil, List.length_take, List.length_drop]; omega)) ?_
                exact ⟨rfl, rfl⟩
              apply NDr.rd [0]
              · intro fH TH
                refine NG.map0N (by omega) ?_
                exact ⟨rfl, rfl⟩
              apply NDr.rd [0]
              · intro fH TH
                refine NP.mk (by (simp only [List.length_map, List.length_append, List.length_replicate, List.length_cons, List.length_nil, List.length_take, List.length_drop]; omega)) ?_
                exact ⟨rfl, rfl⟩
              apply NDr.efw [0]
              · refine NG.map0N (by omega) ?_
                exact ⟨rfl, rfl⟩
              · repeat (first | exact True.intro | refine ⟨by first | exact rfl | exact True.intro, ?_⟩)
              apply NDr.efw []
              · refine NP.mk (by (simp; omega)) ?_
                rw [(ek)]
                exact ⟨rfl, rfl⟩
              · repeat (first | exact True.intro | refine ⟨by first | exact rfl | exact True.intro, ?_⟩)
              apply NDr.efw [0]
              · refine NG.get (by simp; omega) ?_
                exact ⟨rfl, rfl⟩
              · repeat (first | exact True.intro | refine ⟨by first | exact rfl | exact True.intro, ?_⟩)
              refine NP.mk (by kernel_rfl) ?_
              refine NW.i64 (by omega) (by omega) ?_
              refine ND.no (by omega) ?_
              refine NW.i64 (by omega) (by omega) ?_
              refine ND.yes (by omega) ?_
              refine NW.i64 (by omega) (by omega) ?_
              have e12 : ((k + 1 : Nat) : Int) + 1 = ((k + 2 : Nat) : Int) := by omega
              refine NLoop.mk [] [0, 1, 2, 3, 9, 10, 12] (fun m vs H => ∃ (j : Nat) (f : List Item), k + 2 ≤ j ∧ j ≤ b ∧ m = b - j ∧ f.length = l.length ∧ shiftUp ltI b j f.toArray = shiftUp ltI b (k + 2) (swpL d (k + 1) k k1 k0).toArray ∧ H = [.row .vrow (.agg 8) (f.map itemA)] ∧ vs = [.own 0 0 l.length, i64 a, i64 b, .fn Nm.item_compare [], i64 (k + 1 : Nat), i64 (5 - (s + 1) : Nat), i64 j]) rfl ?_ ?_
              · exact Canon.mk [] rfl ⟨_, k + 2, (swpL d (k + 1) k k1 k0), Nat.le_refl _, by omega, rfl, ((swpL_len k1 k0).trans hdl), rfl, by rw [← swpL_row k1 k0, Nat.zero_add, Nat.zero_add]; rfl, rfl⟩
              rintro m vs H ⟨j, f, hj, hjb, rfl, hfl, hf, rfl, rfl⟩
              obtain ⟨q, rfl⟩ : ∃ q, j = q + 1 := ⟨j - 1, by omega⟩
              have eq : Int.toNat (((q + 1 : Nat) : Int) - 1) = q := by omega
              have hU : ∀ g, shiftUp ltI b (q + 1) f.toArray = g → fixUp ltI b (k + 1) (swpL d (k + 1) k k1 k0).toArray = g := fun g hg => by unfold fixUp; rw [if_pos hup, ← hf, hg]
              by_cases hqb : q + 1 < b
              · have z1 : q + 1 < f.length := by omega
                have z0 : q < f.length := by omega
                have y1 := getA z1
                have y0 := getA z0
                have c2 := item_compare_walk f[q + 1] f[q]
                cases t2 : ltI f[q + 1] f[q] with
                | true =>
                  have q2 := ltT t2
                  refine ND.yes (by omega) ?_
                  refine NP.mk (by kernel_rfl) ?_
                  apply NDr.pure
                  · exact ⟨rfl, rfl⟩
                  apply NDr.any
                  · intro H'
                    exact ⟨rfl, rfl⟩
                  apply NDr.pure
                  · exact ⟨rfl, rfl⟩
                  apply NDr.rd [0]
                  · intro fH TH
                    refine NP.mk (by (simp only [List.length_map, List.length_append, List.length_replicate, List.length_cons, List.length_nil, List.length_take, List.length_drop]; omega)) ?_
                    exact ⟨rfl, rfl⟩
                  apply NDr.rd [0]
                  · intro fH TH
                    refine NG.map0N (by omega) ?_
                    exact ⟨rfl, rfl⟩
                  apply NDr.any
                  · intro H'
                    exact ⟨rfl, rfl⟩
                  apply NDr.pure
                  · exact ⟨rfl, rfl⟩
                  apply NDr.pure
                  · refine NW.i64 (by omega) (by omega) ?_
                    exact ⟨rfl, rfl⟩
                  apply NDr.rd [0]
                  · intro fH TH
                    refine NP.mk (by (simp only [List.length_map, List.length_append, List.length_replicate, List.length_cons, List.length_nil, List.length_take, List.length_drop]; omega)) ?_
                    rw [(eq)]
                    exact ⟨rfl, rfl⟩
                  apply NDr.rd [0]
                  · intro fH TH
                    refine NG.map0N (by omega) ?_
                    exact ⟨rfl, rfl⟩
                  apply NDr.pure
                  · refine NCall.call (c2) rfl rfl ?_
                    exact ⟨rfl, rfl⟩
                  apply NDr.pure
                  · refine ND.yes (by omega) ?_
                    exact ⟨rfl, rfl⟩
                  apply NDr.pure
                  · exact ⟨rfl, rfl⟩
                  refine NP.mk (by kernel_rfl) ?_
                  refine NP.mk (by kernel_rfl) ?_
                  apply NDr.any
                  · intro H'
                    exact ⟨rfl, rfl⟩
                  apply NDr.pure
                  · exact ⟨rfl, rfl⟩
                  apply NDr.any
                  · intro H'
                    exact ⟨rfl, rfl⟩
                  apply NDr.pure
                  · exact ⟨rfl, rfl⟩
                  apply NDr.pure
                  · refine NW.i64 (by omega) (by omega) ?_
                    exact ⟨rfl, rfl⟩
                  apply NDr.any
                  · intro H'
                    exact ⟨rfl, rfl⟩
                  apply NDr.pure
                  · exact ⟨rfl, rfl⟩
                  apply NDr.pure
                  · refine NW.i64 (by omega) (by omega) ?_
                    exact ⟨rfl, rfl⟩
                  apply NDr.rd [0]
                  · intro fH TH
                    refine NP.mk (by (simp only [List.length_map, List.length_append, List.length_replicate, List.length_cons, List.length_nil, List.length_take, List.length_drop]; omega)) ?_
                    rw [(eq)]
                    exact ⟨rfl, rfl⟩
                  apply NDr.rd [0]
                  · intro fH TH
                    refine NG.map0N (by omega) ?_
                    exact ⟨rfl, rfl⟩
                  apply NDr.any
                  · intro H'
                    exact ⟨rfl, rfl⟩
                  apply NDr.pure
                  · exact ⟨rfl, rfl⟩
                  apply NDr.rd [0]
                  · intro fH TH
                    refine NP.mk (by (simp only [List.length_map, List.length_append, List.length_replicate, List.length_cons, List.length_nil, List.length_take, List.length_drop]; omega)) ?_
                    exact ⟨rfl, rfl⟩
                  apply NDr.rd [0]
                  · intro fH TH
                    refine NG.map0N (by omega) ?_
                    exact ⟨rfl, rfl⟩
                  apply NDr.rd [0]
                  · intro fH TH
                    refine NP.mk (by (simp only [List.length_map, List.length_append, List.length_replicate, List.length_cons, List.length_nil, List.length_take, List.length_drop]; omega)) ?_
                    exact ⟨rfl, rfl⟩
                  apply NDr.efw [0]
                  · refine NG.map0N (by omega) ?_
                    exact ⟨rfl, rfl⟩
                  · repeat (first | exact True.intro | refine ⟨by first | exact rfl | exact True.intro, ?_⟩)
                  apply NDr.efw []
                  · refine NP.mk (by (simp; omega)) ?_
                    rw [(eq)]
                    exact ⟨rfl, rfl⟩
                  · repeat (first | exact True.intro | refine ⟨by first | exact rfl | exact True.intro, ?_⟩)
                  apply NDr.efw [0]
                  · refine NG.get (by simp; omega) ?_
                    exact ⟨rfl, rfl⟩
                  · repeat (first | exact True.intro | refine ⟨by first | exact rfl | exact True.intro, ?_⟩)
                  refine NP.mk (by kernel_rfl) ?_
                  refine NW.i64 (by omega) (by omega) ?_
                  exact Canon.mk [] rfl ⟨b - (q + 1 + 1), by omega, q + 1 + 1, swpL f (q + 1) q z1 z0, by omega, by omega, rfl, (swpL_len z1 z0).trans hfl, by rw [← hf, shiftUp.eq_def (j := q + 1), if_pos hqb, y1, Nat.add_sub_cancel, y0, t2, if_neg (by simp), swpL_eq z1 z0], by rw [← swpL_row z1 z0, Nat.zero_add, Nat.zero_add]; rfl, rfl⟩
                | false =>
                  have q2 := ltF t2
                  have hU := hU f.toArray (by rw [shiftUp.eq_def, if_pos hqb, y1, Nat.add_sub_cancel, y0, t2, if_pos (by simp)])
                  refine ND.yes (by omega) ?_
                  refine NP.mk (by kernel_rfl) ?_
                  apply NDr.pure
                  · exact ⟨rfl, rfl⟩
                  apply NDr.any
                  · intro H'
                    exact ⟨rfl, rfl⟩
                  apply NDr.pure
                  · exact ⟨rfl, rfl⟩
                  apply NDr.rd [0]
                  · intro fH TH
                    refine NP.mk (by (simp only [List.length_map, List.length_append, List.length_replicate, List.length_cons, List.length_nil, List.length_take, List.length_drop]; omega)) ?_
                    exact ⟨rfl, rfl⟩
                  apply NDr.rd [0]
                  · intro fH TH
                    refine NG.map0N (by omega) ?_
                    exact ⟨rfl, rfl⟩
                  apply NDr.any
                  · intro H'
                    exact ⟨rfl, rfl⟩
                  apply NDr.pure
                  · exact ⟨rfl, rfl⟩
                  apply NDr.pure
                  · refine NW.i64 (by omega) (by omega) ?_
                    exact ⟨rfl, rfl⟩
                  apply NDr.rd [0]
                  · intro fH TH
                    refine NP.mk (by (simp only [List.length_map, List.length_append, List.length_replicate, List.length_cons, List.length_nil, List.length_take, List.length_drop]; omega)) ?_
                    rw [(eq)]
                    exact ⟨rfl, rfl⟩
                  apply NDr.rd [0]
                  · intro fH TH
                    refine NG.map0N (by omega) ?_
                    exact ⟨rfl, rfl⟩
                  apply NDr.pure
                  · refine NCall.call (c2) rfl rfl ?_
                    exact ⟨rfl, rfl⟩
                  apply NDr.pure
                  · refine ND.no (by omega) ?_
                    exact ⟨rfl, rfl⟩
                  apply NDr.pure
                  · exact ⟨rfl, rfl⟩
                  refine NP.mk (by kernel_rfl) ?_
                  refine NW.i64 (by omega) (by omega) ?_
                  exact Canon.mk [] rfl ⟨s, by omega, s, k + 1, f, by omega, rfl, by omega, by omega, hfl, by rw [hD, hU], rfl, by rw [e5]; rfl⟩
              · have hU := hU f.toArray (by rw [shiftUp.eq_def, if_neg hqb])
                refine ND.no (by omega) ?_
                refine NW.i64 (by omega) (by omega) ?_
                exact Canon.mk [] rfl ⟨s, by omega, s, k + 1, f, by omega, rfl, by omega, by omega, hfl, by rw [hD, hU], rfl, by rw [e5]; rfl⟩
            · have hU : fixUp ltI b (k + 1) (swpL d (k + 1) k k1 k0).toArray = (swpL d (k + 1) k k1 k0).toArray := by unfold fixUp; rw [if_neg hup]
              exfalso; omega
    · have hkb' : k + 1 = b := by omega
      have hst : scanSorted ltI d.toArray b i = b := by
        rw [← hu, scanSorted_stop (.inl hkb), hkb']
      rw [hst, if_pos rfl]
      refine NP.mk (by kernel_rfl) ?_
      apply NDr.pure
      · exact ⟨rfl, rfl⟩
      apply NDr.pure
      · exact ⟨rfl, rfl⟩
      apply NDr.pure
      · refine ND.no (by omega) ?_
        exact ⟨rfl, rfl⟩
      apply NDr.pure
      · exact ⟨rfl, rfl⟩
      apply NDr.pure
      · exact ⟨rfl, rfl⟩
      refine NP.mk (by kernel_rfl) ?_
      refine ND.yes (by omega) ?_
      exact NRet.mk [] rfl ⟨.refl _, rfl⟩
end Go.Bv
namespace Go.Bv
set_option linter.unusedSimpArgs false
set_option linter.unusedVariables false
set_option maxHeartbeats 4000000
set_option maxRecDepth 20000
open Go Go.Proofs
open Go.Sort (median medianAdjacent choosePivot Hint)
theorem choosePivot_walk (l : List Item) (a b : Nat) (hab : a < b) (hb : b ≤ l.length) (hl : l.length ≤ 2 ^ 39) : ACalls Try.prog Nm.slices_choosePivotCmpFunc_api_Item [.own 0 0 l.length, i64 a, i64 b, .fn Nm.item_compare []]
    [.row .vrow (.agg 8) (l.map itemA)] (.tup [i64 (choosePivot ltI l.toArray a b).1, i64 (Go.Sort.hintCode (choosePivot ltI l.toArray a b).2)]) [.row .vrow (.agg 8) (l.map itemA)] := by
  refine ACalls_of tab (dr_snd tab mixed) Nm.slices_choosePivotCmpFunc_api_Item_h rfl (by kernel_rfl) (Nat.le_of_ble_eq_true rfl) rfl ?_
  rw [Go.Sort.choosePivot_eq]
  have e4 : ((b : Int) - (a : Int)).tdiv 4 = (((b - a) / 4 : Nat) : Int) := by
    rw [show (b : Int) - (a : Int) = ((b - a : Nat) : Int) by omega]
    exact (Int.ofNat_tdiv (b - a) 4).symm
  obtain ⟨q, hq⟩ : ∃ q, q = (b - a) / 4 := ⟨_, rfl⟩
  rw [← hq] at e4
  have hq1 : 4 * q ≤ b - a := by omega
  have hq2 : b - a < 4 * q + 4 := by omega
  have fin : ∀ s : Nat, Go.Sort.hintCode (Go.Sort.hintOf s) = if s = 0 then 1 else if s = 12 then 2 else 0 := fun s => by
    unfold Go.Sort.hintOf
    split
    · rfl
    · split <;> rfl
  rw [fin]
  unfold Go.Sort.rawPivot
  rw [← hq]
  clear hq fin
  by_cases h8 : b - a ≥ 8
  · rw [if_pos h8]
    by_cases h50 : b - a ≥ 50
    · rw [if_pos h50]
      have w1 := medianAdj_walk l (a + q * 1) 0 (by omega) (by omega) hl (by omega)
      have m1 := Go.Sort.medianAdjacent_mem ltI l.toArray (a + q * 1) 0
      have n1 := Go.Sort.medianAdjacent_count ltI l.toArray (a + q * 1) 0
      generalize medianAdjacent ltI l.toArray (a + q * 1) 0 = r1 at *
      have p1 : r1.1 < l.length := by omega
      clear m1
      have w2 := medianAdj_walk l (a + q * 2) r1.2 (by omega) (by omega) hl (by omega)
      have m2 := Go.Sort.medianAdjacent_mem ltI l.toArray (a + q * 2) r1.2
      have n2 := Go.Sort.medianAdjacent_count ltI l.toArray (a + q * 2) r1.2
      generalize medianAdjacent ltI l.toArray (a + q * 2) r1.2 = r2 at *
      have p2 : r2.1 < l.length := by omega
      clear m2
      have w3 := medianAdj_walk l (a + q * 3) r2.2 (by omega) (by omega) hl (by omega)
      have m3 := Go.Sort.medianAdjacent_mem ltI l.toArray (a + q * 3) r2.2
      have n3 := Go.Sort.medianAdjacent_count ltI l.toArray (a + q * 3) r2.2
      generalize medianAdjacent ltI l.toArray (a + q * 3) r2.2 = r3 at *
      have p3 : r3.1 < l.length := by omega
      clear m3
      have w4 := median_walk l r1.1 r2.1 r3.1 r3.2 (by omega) (by omega) (by omega) hl (by omega)
      have n4 := Go.Sort.median_count ltI l.toArray r1.1 r2.1 r3.1 r3.2
      generalize median ltI l.toArray r1.1 r2.1 r3.1 r3.2 = r4 at *
      rw [show (((a + q * 1 : Nat)) : Int) = (a : Int) + (q : Int) * 1 by omega] at w1
      rw [show (((a + q * 2 : Nat)) : Int) = (a : Int) + (q : Int) * 2 by omega] at w2
      rw [show (((a + q * 3 : Nat)) : Int) = (a : Int) + (q : Int) * 3 by omega] at w3
      by_cases z0 : r4.2 = 0
      · rw [if_pos z0]
        refine NW.i64 (by omega) (by omega) ?_
        refine NP.mk (by omega) ?_
        rw [(e4)]
        refine NW.i64 (by omega) (by omega) ?_
        refine NW.i64 (by omega) (by omega) ?_
        refine NW.i64 (by omega) (by omega) ?_
        refine NP.mk (by omega) ?_
        rw [(e4)]
        refine NW.i64 (by omega) (by omega) ?_
        refine NW.i64 (by omega) (by omega) ?_
        refine NW.i64 (by omega) (by omega) ?_
        refine NP.mk (by omega) ?_
        rw [(e4)]
        refine NW.i64 (by omega) (by omega) ?_
        refine NW.i64 (by omega) (by omega) ?_
        refine NW.i64 (by omega) (by omega) ?_
        refine ND.yes (by omega) ?_
        refine ND.yes (by omega) ?_
        refine NCall.atA (w1) ?_
        refine NCall.atA (w2) ?_
        refine NCall.atA (w3) ?_
        refine NCall.atA (w4) ?_
        refine ND.yes (by omega) ?_
        exact NRet.mk [] rfl ⟨.refl _, rfl⟩
      · rw [if_neg z0]
        by_cases z12 : r4.2 = 12
        · rw [if_pos z12]
          refine NW.i64 (by omega) (by omega) ?_
          refine NP.mk (by omega) ?_
          rw [(e4)]
          refine NW.i64 (by omega) (by omega) ?_
          refine NW.i64 (by omega) (by omega) ?_
          refine NW.i64 (by omega) (by omega) ?_
          refine NP.mk (by omega) ?_
          rw [(e4)]
          refine NW.i64 (by omega) (by omega) ?_
          refine NW.i64 (by omega) (by omega) ?_
          refine NW.i64 (by omega) (by omega) ?_
          refine NP.mk (by omega) ?_
          rw [(e4)]
          refine NW.i64 (by omega) (by omega) ?_
          refine NW.i64 (by omega) (by omega) ?_
          refine NW.i64 (by omega) (by omega) ?_
          refine ND.yes (by omega) ?_
          refine ND.yes (by omega) ?_
          refine NCall.atA (w1) ?_
          refine NCall.atA (w2) ?_
          refine NCall.atA (w3) ?_
          refine NCall.atA (w4) ?_
          refine ND.no (by omega) ?_
          refine ND.yes (by omega) ?_
          exact NRet.mk [] rfl ⟨.refl _, rfl⟩
        · rw [if_neg z12]
          refine NW.i64 (by omega) (by omega) ?_
          refine NP.mk (by omega) ?_
          rw [(e4)]
          refine NW.i64 (by omega) (by omega) ?_
          refine NW.i64 (by omega) (by omega) ?_
          refine NW.i64 (by omega) (by omega) ?_
          refine NP.mk (by omega) ?_
          rw [(e4)]
          refine NW.i64 (by omega) (by omega) ?_
          refine NW.i64 (by omega) (by omega) ?_
          refine NW.i64 (by omega) (by omega) ?_
          refine NP.mk (by omega) ?_
          rw [(e4)]
          refine NW.i64 (by omega) (by omega) ?_
          refine NW.i64 (by omega) (by omega) ?_
          refine NW.i64 (by omega) (by omega) ?_
          refine ND.yes (by omega) ?_
          refine ND.yes (by omega) ?_
          refine NCall.atA (w1) ?_
          refine NCall.atA (w2) ?_
          refine NCall.atA (w3) ?_
          refine NCall.atA (w4) ?_
          refine ND.no (by omega) ?_
          refine ND.no (by omega) ?_
          exact NRet.mk [] rfl ⟨.refl _, rfl⟩
    · rw [if_neg h50]
      have w4 := median_walk l (a + q * 1) (a + q * 2) (a + q * 3) 0 (by omega) (by omega) (by omega) hl (by omega)
      generalize median ltI l.toArray (a + q * 1) (a + q * 2) (a + q * 3) 0 = r4 at *
      rw [show (((a + q * 1 : Nat)) : Int) = (a : Int) + (q : Int) * 1 by omega, show (((a + q * 2 : Nat)) : Int) = (a : Int) + (q : Int) * 2 by omega, show (((a + q * 3 : Nat)) : Int) = (a : Int) + (q : Int) * 3 by omega] at w4
      by_cases z0 : r4.2 = 0
      · rw [if_pos z0]
        refine NW.i64 (by omega) (by omega) ?_
        refine NP.mk (by omega) ?_
        rw [(e4)]
        refine NW.i64 (by omega) (by omega) ?_
        refine NW.i64 (by omega) (by omega) ?_
        refine NW.i64 (by omega) (by omega) ?_
        refine NP.mk (by omega) ?_
        rw [(e4)]
        refine NW.i64 (by omega) (by omega) ?_
        refine NW.i64 (by omega) (by omega) ?_
        refine NW.i64 (by omega) (by omega) ?_
        refine NP.mk (by omega) ?_
        rw [(e4)]
        refine NW.i64 (by omega) (by omega) ?_
        refine NW.i64 (by omega) (by omega) ?_
        refine NW.i64 (by omega) (by omega) ?_
        refine ND.yes (by omega) ?_
        refine ND.no (by omega) ?_
        refine NCall.atA (w4) ?_
        refine ND.yes (by omega) ?_
        exact NRet.mk [] rfl ⟨.refl _, rfl⟩
      · rw [if_neg z0]
        by_cases z12 : r4.2 = 12
        · rw [if_pos z12]
          refine NW.i64 (by omega) (by omega) ?_
          refine NP.mk (by omega) ?_
          rw [(e4)]
          refine NW.i64 (by omega) (by omega) ?_
          refine NW.i64 (by omega) (by omega) ?_
          refine NW.i64 (by omega) (by omega) ?_
          refine NP.mk (by omega) ?_
          rw [(e4)]
          refine NW.i64 (by omega) (by omega) ?_
          refine NW.i64 (by omega) (by omega) ?_
          refine NW.i64 (by omega) (by omega) ?_
          refine NP.mk (by omega) ?_
          rw [(e4)]
          refine NW.i64 (by omega) (by omega) ?_
          refine NW.i64 (by omega) (by omega) ?_
          refine NW.i64 (by omega) (by omega) ?_
          refine ND.yes (by omega) ?_
          refine ND.no (by omega) ?_
          refine NCall.atA (w4) ?_
          refine ND.no (by omega) ?_
          refine ND.yes (by omega) ?_
          exact NRet.mk [] rfl ⟨.refl _, rfl⟩
        · rw [if_neg z12]
          refine NW.i64 (by omega) (by omega) ?_
          refine NP.mk (by omega) ?_
          rw [(e4)]
          refine NW.i64 (by omega) (by omega) ?_
          refine NW.i64 (by omega) (by omega) ?_
          refine NW.i64 (by omega) (by omega) ?_
          refine NP.mk (by omega) ?_
          rw [(e4)]
          refine NW.i64 (by omega) (by omega) ?_
          refine NW.i64 (by omega) (by omega) ?_
          refine NW.i64 (by omega) (by omega) ?_
          refine NP.mk (by omega) ?_
          rw [(e4)]
          refine NW.i64 (by omega) (by omega) ?_
          refine NW.i64 (by omega) (by omega) ?_
          refine NW.i64 (by omega) (by omega) ?_
          refine ND.yes (by omega) ?_
          refine ND.no (by omega) ?_
          refine NCall.atA (w4) ?_
          refine ND.no (by omega) ?_
          refine ND.no (by omega) ?_
          exact NRet.mk [] rfl ⟨.refl _, rfl⟩
  · rw [if_neg h8]
    rw [show ((a + q * 2 : Nat) : Int) = (a : Int) + (q : Int) * 2 by omega]
    refine NW.i64 (by omega) (by omega) ?_
    refine NP.mk (by omega) ?_
    rw [(e4)]
    refine NW.i64 (by omega) (by omega) ?_
    refine NW.i64 (by omega) (by omega) ?_
    refine NW.i64 (by omega) (by omega) ?_
    refine NP.mk (by omega) ?_
    rw [(e4)]
    refine NW.i64 (by omega) (by omega) ?_
    refine NW.i64 (by omega) (by omega) ?_
    refine NW.i64 (by omega) (by omega) ?_
    refine NP.mk (by omega) ?_
    rw [(e4)]
    refine NW.i64 (by omega) (by omega) ?_
    refine NW.i64 (by omega) (by omega) ?_
    refine NW.i64 (by omega) (by omega) ?_
    refine ND.no (by omega) ?_
    refine ND.yes (by omega) ?_
    exact NRet.mk [] rfl ⟨.refl _, rfl⟩
end Go.Bv
namespace Go.Bv
set_option linter.unusedSimpArgs false
set_option linter.unusedVariables false
set_option maxHeartbeats 4000000
set_option maxRecDepth 20000
open Go Go.Proofs
open Go.Sort (swp xorNext xorNextN bitsLen breakStep breakPatterns)
theorem NW.of {k : IntKind} {z z' : Int} {next : Int → Prop} (e : z = z') (h : NW k z' next) : NW k z next := e ▸ h
theorem bs_eq (a len md : Nat) (r : UInt64) (d : Array Item) (idx : Nat) : breakStep a len md (r, d) idx = (xorNext r, swp d idx (a + (if (xorNext r).toNat &&& (md - 1) ≥ len then ((xorNext r).toNat &&& (md - 1)) - len else (xorNext r).toNat &&& (md - 1)))) := rfl
/-- Where the other one stands. -/
def othr (r : UInt64) (md len : Nat) : Nat := if (xorNext r).toNat &&& (md - 1) ≥ len then ((xorNext r).toNat &&& (md - 1)) - len else (xorNext r).toNat &&& (md - 1)
def brk (a len md : Nat) (st : UInt64 × Array Item) (idx : Nat) : Nat → UInt64 × Array Item
  | 0 => st
  | k + 1 => brk a len md (breakStep a len md st idx) (idx + 1) k
theorem othr_lt (r : UInt64) (len : Nat) (h : 8 ≤ len) : othr r (1 <<< bitsLen len) len < len := by
  have h2 := Go.Sort.two_pow_bitsLen_le (n := len) (by omega)
  have h4 : 1 <<< bitsLen len = 2 ^ bitsLen len := by rw [Nat.shiftLeft_eq, Nat.one_mul]
  have h5 := Go.Sort.lt_two_pow_bitsLen len
  rw [← h4] at h2 h5
  clear h4
  generalize 1 <<< bitsLen len = M at *
  have h3 : (xorNext r).toNat &&& (M - 1) ≤ M - 1 := Nat.and_le_right
  unfold othr
  split <;> omega
theorem break_walk (l : List Item) (a b : Nat) (hab : a ≤ b) (hb : b ≤ l.length) (hl : l.length ≤ 60000) : ACalls Try.prog Nm.slices_breakPatternsCmpFunc_api_Item [.own 0 0 l.length, i64 a, i64 b, .fn Nm.item_compare []]
    [.row .vrow (.agg 8) (l.map itemA)] (.tup []) [.row .vrow (.agg 8) ((breakPatterns l.toArray a b).toList.map itemA)] := by
  refine ACalls_of tab (dr_snd tab mixed) Nm.slices_breakPatternsCmpFunc_api_Item_h rfl (by kernel_rfl) (Nat.le_of_ble_eq_true rfl) rfl ?_
  have hbp : breakPatterns l.toArray a b = if b - a ≥ 8 then (brk a (b - a) (1 <<< bitsLen (b - a)) (UInt64.ofNat (b - a), l.toArray) (a + ((b - a) / 4) * 2 - 1) 3).2 else l.toArray := by
    simp only [breakPatterns, brk, Nat.add_assoc, Nat.reduceAdd, ge_iff_le]
  have e4 : ((b : Int) - (a : Int)).tdiv 4 = (((b - a) / 4 : Nat) : Int) := by
    rw [show (b : Int) - (a : Int) = ((b - a : Nat) : Int) by omega]
    exact (Int.ofNat_tdiv (b - a) 4).symm
  by_cases h8 : b - a ≥ 8
  · rw [hbp, if_pos h8]
    obtain ⟨len, hlen⟩ : ∃ k, k = b - a := ⟨_, rfl⟩
    have w0 := pow2_walk (b - a) (by omega)
    rw [← hlen] at h8 w0 e4 ⊢
    have el : (b : Int) - (a : Int) = (len : Int) := by omega
    have ew : IntKind.wrap .u64 (len : Int) = (len : Int) := by rw [wrap_u64]; omega
    obtain ⟨q, hq⟩ : ∃ k, k = len / 4 := ⟨_, rfl⟩
    rw [el] at e4
    rw [← hq] at e4 ⊢
    have hot := fun r => othr_lt r len (by omega)
    have hmd1 := Go.Sort.two_pow_bitsLen_le (n := len) (by omega)
    have hmd2 : 1 <<< bitsLen len = 2 ^ bitsLen len := by rw [Nat.shiftLeft_eq, Nat.one_mul]
    have hmd3 := Go.Sort.lt_two_pow_bitsLen len
    rw [← hmd2] at hmd1 hmd3
    clear hmd2
    generalize 1 <<< bitsLen len = md at *
    refine NW.i64 (by omega) (by omega) ?_
    rw [(el)]
    refine ND.yes (by omega) ?_
    refine NW.mk _ rfl ?_
    rw [(ew)]
    refine NCall.call (w0) rfl rfl ?_
    refine NP.mk (by omega) ?_
    rw [(e4)]
    refine NW.i64 (by omega) (by omega) ?_
    refine NW.i64 (by omega) (by omega) ?_
    refine NW.i64 (by omega) (by omega) ?_
    refine NW.i64 (by omega) (by omega) ?_
    refine NLoop.mk [] [0, 1, 8, 9, 10, 11] (fun m vs H => ∃ (k : Nat) (r : UInt64) (d : List Item), k ≤ 3 ∧ k = m ∧ d.length = l.length ∧ brk a len md (r, d.toArray) (a + q * 2 - 1 + (3 - k)) k = brk a len md (UInt64.ofNat len, l.toArray) (a + q * 2 - 1) 3 ∧
      H = [.row .vrow (.agg 8) (d.map itemA), .row .box .leaf [.int .u64 r.toNat]] ∧ vs = [.own 0 0 l.length, i64 a, i64 len, .ptr 1 0 0, .int .u64 md, i64 (a + q * 2 - 1 + (3 - k) : Nat)]) rfl ?_ ?_
    · exact Canon.mk [1] rfl ⟨_, 3, UInt64.ofNat len, l, Nat.le_refl _, rfl, rfl, rfl, by rw [show (UInt64.ofNat len).toNat = len by rw [UInt64.toNat_ofNat']; omega], by rw [show (a : Int) + (q : Int) * 2 - 1 = ((a + q * 2 - 1 + (3 - 3) : Nat) : Int) by omega]; rfl⟩
    rintro m vs H ⟨k, r, d, hk, rfl, hdl, he, rfl, rfl⟩
    rw [← he]
    cases k with
    | zero =>
      refine NP.mk (by omega) ?_
      refine NW.i64 (by omega) (by omega) ?_
      refine NW.i64 (by omega) (by omega) ?_
      refine NW.i64 (by omega) (by omega) ?_
      refine NW.i64 (by omega) (by omega) ?_
      refine ND.no (by omega) ?_
      exact NRet.mk [] rfl ⟨.refl _, rfl⟩
    | succ k =>
      have w1 := xorNext_walk r.toNat (by have := r.toNat_lt; omega)
      rw [← Go.Sort.xorNext_toNat] at w1
      have hR := (xorNext r).toNat_lt
      have ef := fun (_ : True) => and_u64n (xorNext r).toNat (md - 1) (by omega) (by omega)
      have em : (md : Int) - 1 = ((md - 1 : Nat) : Int) := by omega
      have hb1 : (xorNext r).toNat &&& (md - 1) ≤ md - 1 := Nat.and_le_right
      have em2 : IntKind.wrap .u64 ((md - 1 : Nat) : Int) = ((md - 1 : Nat) : Int) := by rw [wrap_u64]; omega
      have ho := hot r
      have hoe : othr r md len = if (xorNext r).toNat &&& (md - 1) ≥ len then ((xorNext r).toNat &&& (md - 1)) - len else (xorNext r).toNat &&& (md - 1) := by unfold othr; rfl
      have hix : ((a + q * 2 - 1 + (3 - (k + 1)) : Nat) : Int) + 1 = ((a + q * 2 - 1 + (3 - k) : Nat) : Int) := by omega
      have hix2 : a + q * 2 - 1 + (3 - (k + 1)) + 1 = a + q * 2 - 1 + (3 - k) := by omega
      have k1 : a + q * 2 - 1 + (3 - (k + 1)) < d.length := by omega
      have hbrk : brk a len md (r, d.toArray) (a + q * 2 - 1 + (3 - (k + 1))) (k + 1) = brk a len md (xorNext r, swp d.toArray (a + q * 2 - 1 + (3 - (k + 1))) (a + othr r md len)) (a + q * 2 - 1 + (3 - k)) k := by
        rw [brk, bs_eq, hix2]; unfold othr; rfl
      generalize a + q * 2 - 1 + (3 - (k + 1)) = idx at *
      generalize (xorNext r).toNat &&& (md - 1) = mk at *
      by_cases ho2 : mk ≥ len
      · rw [if_pos ho2] at hoe
        rw [hoe] at ho hbrk
        have k2 : a + (mk - len) < d.length := by omega
        have eo : (mk : Int) - (len : Int) = ((mk - len : Nat) : Int) := by omega
        have eI : Int.toNat ((a : Int) + ((mk - len : Nat) : Int)) = a + (mk - len) := by omega
        rw [swpL_eq k1 k2] at hbrk
        refine NP.mk (by omega) ?_
        refine NW.i64 (by omega) (by omega) ?_
        refine NW.i64 (by omega) (by omega) ?_
        refine NW.i64 (by omega) (by omega) ?_
        refine NW.i64 (by omega) (by omega) ?_
        refine ND.yes (by omega) ?_
        refine NCall.subA [1] (w1) ?_
        refine NW.mk _ rfl ?_
        rw [(em)]
        rw [(em2)]
        refine NW.of (ef trivial) ?_
        refine NW.i64 (by omega) (by omega) ?_
        refine ND.yes (by omega) ?_
        refine NW.i64 (by omega) (by omega) ?_
        rw [(eo)]
        refine NP.mk (by kernel_rfl) ?_
        apply NDr.any
        · intro H'
          exact ⟨rfl, rfl⟩
        apply NDr.pure
        · exact ⟨rfl, rfl⟩
        apply NDr.any
        · intro H'
          exact ⟨rfl, rfl⟩
        apply NDr.pure
        · exact ⟨rfl, rfl⟩
        apply NDr.pure
        · exact ⟨rfl, rfl⟩
        apply NDr.pure
        · refine NW.i64 (by omega) (by omega) ?_
          exact ⟨rfl, rfl⟩
        apply NDr.any
        · intro H'
          exact ⟨rfl, rfl⟩
        apply NDr.pure
        · exact ⟨rfl, rfl⟩
        apply NDr.pure
        · exact ⟨rfl, rfl⟩
        apply NDr.pure
        · refine NW.i64 (by omega) (by omega) ?_
          exact ⟨rfl, rfl⟩
        apply NDr.rd [0]
        · intro fH TH
          refine NP.mk (by (simp only [List.length_map, List.length_append, List.length_replicate, List.length_cons, List.length_nil, List.length_take, List.length_drop]; omega)) ?_
          rw [(eI)]
          exact ⟨rfl, rfl⟩
        apply NDr.rd [0]
        · intro fH TH
          refine NG.map0N (by omega) ?_
          exact ⟨rfl, rfl⟩
        apply NDr.any
        · intro H'
          exact ⟨rfl, rfl⟩
        apply NDr.pure
        · exact ⟨rfl, rfl⟩
        apply NDr.rd [0]
        · intro fH TH
          refine NP.mk (by (simp only [List.length_map, List.length_append, List.length_replicate, List.length_cons, List.length_nil, List.length_take, List.length_drop]; omega)) ?_
          exact ⟨rfl, rfl⟩
        apply NDr.rd [0]
        · intro fH TH
          refine NG.map0N (by omega) ?_
          exact ⟨rfl, rfl⟩
        apply NDr.rd [0]
        · intro fH TH
          refine NP.mk (by (simp only [List.length_map, List.length_append, List.length_replicate, List.length_cons, List.length_nil, List.length_take, List.length_drop]; omega)) ?_
          exact ⟨rfl, rfl⟩
        apply NDr.efw [0]
        · refine NG.map0N (by omega) ?_
          exact ⟨rfl, rfl⟩
        · repeat (first | exact True.intro | refine ⟨by first | exact rfl | exact True.intro, ?_⟩)
        apply NDr.efw []
        · refine NP.mk (by (simp; omega)) ?_
          rw [(eI)]
          exact ⟨rfl, rfl⟩
        · repeat (first | exact True.intro | refine ⟨by first | exact rfl | exact True.intro, ?_⟩)
        apply NDr.efw [0]
        · refine NG.get (by simp; omega) ?_
          exact ⟨rfl, rfl⟩
        · repeat (first | exact True.intro | refine ⟨by first | exact rfl | exact True.intro, ?_⟩)
        refine NP.mk (by kernel_rfl) ?_
        refine NW.i64 (by omega) (by omega) ?_
        exact Canon.mk [1] rfl ⟨k, by omega, k, xorNext r, swpL d idx (a + (mk - len)) k1 k2, by omega, rfl, (swpL_len k1 k2).trans hdl, hbrk.symm, by rw [← swpL_row k1 k2, Nat.zero_add, Nat.zero_add]; rfl, by rw [hix]; rfl⟩
      · rw [if_neg ho2] at hoe
        rw [hoe] at ho hbrk
        have k2 : a + mk < d.length := by omega
        have eI : Int.toNat ((a : Int) + (mk : Int)) = a + mk := by omega
        rw [swpL_eq k1 k2] at hbrk
        refine NP.mk (by omega) ?_
        refine NW.i64 (by omega) (by omega) ?_
        refine NW.i64 (by omega) (by omega) ?_
        refine NW.i64 (by omega) (by omega) ?_
        refine NW.i64 (by omega) (by omega) ?_
        refine ND.yes (by omega) ?_
        refine NCall.subA [1] (w1) ?_
        refine NW.mk _ rfl ?_
        rw [(em)]
        rw [(em2)]
        refine NW.of (ef trivial) ?_
        refine NW.i64 (by omega) (by omega) ?_
        refine ND.no (by omega) ?_
        refine NP.mk (by kernel_rfl) ?_
        apply NDr.any
        · intro H'
          exact ⟨rfl, rfl⟩
        apply NDr.pure
        · exact ⟨rfl, rfl⟩
        apply NDr.any
        · intro H'
          exact ⟨rfl, rfl⟩
        apply NDr.pure
        · exact ⟨rfl, rfl⟩
        apply NDr.pure
        · exact ⟨rfl, rfl⟩
        apply NDr.pure
        · refine NW.i64 (by omega) (by omega) ?_
          exact ⟨rfl, rfl⟩
        apply NDr.any
        · intro H'
          exact ⟨rfl, rfl⟩
        apply NDr.pure
        · exact ⟨rfl, rfl⟩
        apply NDr.pure
        · exact ⟨rfl, rfl⟩
        apply NDr.pure
        · refine NW.i64 (by omega) (by omega) ?_
          exact ⟨rfl, rfl⟩
        apply NDr.rd [0]
        · intro fH TH
          refine NP.mk (by (simp only [List.length_map, List.length_append, List.length_replicate, List.length_cons, List.length_nil, List.length_take, List.length_drop]; omega)) ?_
          rw [(eI)]
          exact ⟨rfl, rfl⟩
        apply NDr.rd [0]
        · intro fH TH
          refine NG.map0N (by omega) ?_
          exact ⟨rfl, rfl⟩
        apply NDr.any
        · intro H'
          exact ⟨rfl, rfl⟩
        apply NDr.pure
        · exact ⟨rfl, rfl⟩
        apply NDr.rd [0]
        · intro fH TH
          refine NP.mk (by (simp only [List.length_map, List.length_append, List.length_replicate, List.length_cons, List.length_nil, List.length_take, List.length_drop]; omega)) ?_
          exact ⟨rfl, rfl⟩
        apply NDr.rd [0]
        · intro fH TH
          refine NG.map0N (by omega) ?_
          exact ⟨rfl, rfl⟩
        apply NDr.rd [0]
        · intro fH TH
          refine NP.mk (by (simp only [List.length_map, List.length_append, List.length_replicate, List.length_cons, List.length_nil, List.length_take, List.length_drop]; omega)) ?_
          exact ⟨rfl, rfl⟩
        apply NDr.efw [0]
        · refine NG.map0N (by omega) ?_
          exact ⟨rfl, rfl⟩
        · repeat (first | exact True.intro | refine ⟨by first | exact rfl | exact True.intro, ?_⟩)
        apply NDr.efw []
        · refine NP.mk (by (simp; omega)) ?_
          rw [(eI)]
          exact ⟨rfl, rfl⟩
        · repeat (first | exact True.intro | refine ⟨by first | exact rfl | exact True.intro, ?_⟩)
        apply NDr.efw [0]
        · refine NG.get (by simp; omega) ?_
          exact ⟨rfl, rfl⟩
        · repeat (first | exact True.intro | refine ⟨by first | exact rfl | exact True.intro, ?_⟩)
        refine NP.mk (by kernel_rfl) ?_
        refine NW.i64 (by omega) (by omega) ?_
        exact Canon.mk [1] rfl ⟨k, by omega, k, xorNext r, swpL d idx (a + mk) k1 k2, by omega, rfl, (swpL_len k1 k2).trans hdl, hbrk.symm, by rw [← swpL_row k1 k2, Nat.zero_add, Nat.zero_add]; rfl, by rw [hix]; rfl⟩
  · rw [hbp, if_neg h8]
    refine NW.i64 (by omega) (by omega) ?_
    refine ND.no (by omega) ?_
    exact NRet.mk [] rfl ⟨.refl _, rfl⟩
end Go.Bv
