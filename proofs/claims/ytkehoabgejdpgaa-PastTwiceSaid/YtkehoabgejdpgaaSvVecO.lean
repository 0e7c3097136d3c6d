/- Part of the lift: an abstract walk of the program's code, proved sound, and what it shows of this program. -/
import Derived.Test.YtkehoabgejdpgaaSvTyp
namespace Go.Bv
set_option linter.unusedSimpArgs false
set_option linter.unusedVariables false
set_option maxHeartbeats 4000000
open Go Go.Proofs

/-- slices.Clone of a vector. -/
theorem cloneV_walk (l : List Int) (hl : l.length ≤ 2 ^ 40) : ACalls Try.prog Nm.slices_Clone_api_Vec_int [ints l] [] (.own 0 0 l.length) [.row .vrow .leaf (l.map i64)] := by
  refine ACalls_of tab noDr_snd Nm.slices_Clone_api_Vec_int_h rfl (by kernel_rfl) (Nat.le_of_ble_eq_true rfl) rfl ?_
  refine NN.mk (fun h => ?_) ?_
  · have : l = [] := by simpa using h
    subst this
    exact NRet.ad [(2, .leaf)] [0] rfl ⟨.refl _, rfl⟩
  · refine NFz.own ?_
    refine NApp.endA rfl (by simp; omega) ?_
    refine NRet.mk [1] rfl ⟨?_, rfl⟩
    show LeA (.own 0 0 (l.map i64).length) _
    rw [List.length_map]; exact .refl _

theorem vecAt_walk (v : List Int) (n : Int) (hl : v.length ≤ 2 ^ 40) : ACalls Try.prog Nm.vec_At [ints v, i64 n] [] (i64 (vatI v n)) [] := by
  refine ACalls_of tab (dr_snd tab mixed) Nm.vec_At_h rfl (by kernel_rfl) (Nat.le_of_ble_eq_true rfl) rfl ?_
  unfold vatI
  by_cases h0 : n < 0
  · rw [if_pos h0]
    refine ND.yes (by omega) ?_
    exact NRet.mk [] rfl ⟨.refl _, rfl⟩
  · rw [if_neg h0]
    obtain ⟨j, rfl⟩ : ∃ j : Nat, n = j := ⟨n.toNat, by omega⟩
    rw [Int.toNat_natCast]
    by_cases h1 : j < v.length
    · rw [vat_in h1]
      refine ND.no (by omega) ?_
      refine ND.no (by (simp only [List.length_map, List.length_append, List.length_replicate, List.length_cons, List.length_nil, List.length_take, List.length_drop]; omega)) ?_
      refine NP.mk (by omega) ?_
      refine NG.mapN (by omega) ?_
      exact NRet.mk [] rfl ⟨.refl _, rfl⟩
    · rw [vat_out (by omega)]
      refine ND.no (by omega) ?_
      refine ND.yes (by (simp only [List.length_map, List.length_append, List.length_replicate, List.length_cons, List.length_nil, List.length_take, List.length_drop]; omega)) ?_
      exact NRet.mk [] rfl ⟨.refl _, rfl⟩

theorem vecTrim_walk (v : List Int) (hl : v.length ≤ 2 ^ 40) : ACalls Try.prog Nm.vec_Trim [ints v] [] (ints (trim v)) [] := by
  refine ACalls_of tab (dr_snd tab mixed) Nm.vec_Trim_h rfl (by kernel_rfl) (Nat.le_of_ble_eq_true rfl) rfl ?_
  refine NLoop.mk [] [0, 3] (fun m vs H => ∃ n, n ≤ v.length ∧ m = n ∧ trim v = trim (v.take n) ∧ H = [] ∧ vs = [ints v, i64 n]) rfl ?_ ?_
  · exact Canon.mk [] rfl ⟨v.length, v.length, Nat.le_refl _, rfl, by rw [List.take_length], rfl, by simp [i64, ints]⟩
  · rintro m vs H ⟨n, hn, rfl, ht, rfl, rfl⟩
    have fin : (m = 0 ∨ ∃ h : m - 1 < v.length, 0 < m ∧ 0 < v[m - 1]) → trim v = (v.take m).map (max · 0) := by
      rintro (rfl | ⟨h, h0, hp⟩)
      · rw [ht]; rfl
      · rw [ht, show v.take m = v.take (m - 1) ++ [v[m - 1]] by rw [← List.take_succ_eq_append_getElem h]; congr 1; omega]
        exact trim_snoc_pos _ hp
    refine NB.dec (fun h1 => ?_) (fun h1 => ?_)
    · have h1' : 0 < m := by omega
      have hlt : m - 1 < v.length := by omega
      refine NW.i64 (by omega) (by omega) (NP.mk (by omega) (NG.mapE (j := m - 1) (by omega) hlt ?_))
      refine NB.dec (fun h2 => ?_) (fun h2 => ?_)
      · refine NW.i64 (by omega) (by omega) (Canon.mk [] rfl ⟨m - 1, by omega, m - 1, by omega, rfl, ?_, rfl, ?_⟩)
        · rw [ht, show v.take m = v.take (m - 1) ++ [v[m - 1]] by rw [← List.take_succ_eq_append_getElem hlt]; congr 1; omega]
          exact trim_snoc_np _ h2
        · show [_, AV.int .i64 ((m : Int) - 1)] = [_, AV.int .i64 ((m - 1 : Nat) : Int)]
          rw [show ((m - 1 : Nat) : Int) = (m : Int) - 1 by omega]; rfl
      · have hfin := fin (.inr ⟨hlt, h1', by omega⟩)
        have e : (v.map i64).take ((m : Int)).toNat = (v.take m).map i64 := by rw [Int.toNat_natCast, List.map_take]
        have hwl : (v.take m).length ≤ 2 ^ 40 := by simp; omega
        generalize v.take m = w at *
        have hc := cloneV_walk w hwl
        refine NP.mk (by (simp only [List.length_map, List.length_append, List.length_replicate, List.length_cons, List.length_nil, List.length_take, List.length_drop]; omega)) ?_
        rw [(e)]
        refine NCall.atA (ACalls.frame (hc) rfl _) ?_
        refine NLoop.mk [] [4, 25, 26] (fun q vs H => ∃ i, i ≤ w.length ∧ q = w.length - i ∧ H = [.row .vrow .leaf ((mx w i).map i64)] ∧ vs = [.own 0 0 w.length, i64 w.length, i64 i]) rfl ?_ ?_
        · exact Canon.mk [0] rfl ⟨w.length, 0, Nat.zero_le _, rfl, by rw [mx_zero], rfl⟩
        · rintro q vs H ⟨i, hi, rfl, rfl, rfl⟩
          have hml := mx_len w i
          refine NB.dec (fun h3 => ?_) (fun h3 => ?_)
          · have hi' : i < w.length := by omega
            refine NP.mk (by (simp only [List.length_map, List.length_append, List.length_replicate, List.length_cons, List.length_nil, List.length_take, List.length_drop]; omega)) ?_
            refine NG.mapN (by omega) ?_
            refine NP.mk (by (simp only [List.length_map, List.length_append, List.length_replicate, List.length_cons, List.length_nil, List.length_take, List.length_drop]; omega)) ?_
            refine NG.mapN (by omega) ?_
            refine NW.i64 (by omega) (by omega) ?_
            refine Canon.mk [0] rfl ⟨w.length - (i + 1), by omega, i + 1, by omega, rfl, ?_, rfl⟩
            rw [← mx_set hi', List.map_set]
            simp only [Int.toNat_natCast, Nat.zero_add, mx_at hi']
            rfl
          · have : i = w.length := by omega
            subst this
            refine NRet.mk [] rfl (NFrz.mk ((mx w w.length).map i64) (by simp [mx_len]) (by rw [List.drop_zero, List.take_of_length_le (by simp [mx_len])]) ⟨by rw [hfin, ← mx_full]; exact .refl _, rfl⟩)
    · have hfin := fin (.inl (by omega))
      have e : (v.map i64).take ((m : Int)).toNat = (v.take m).map i64 := by rw [Int.toNat_natCast, List.map_take]
      have hwl : (v.take m).length ≤ 2 ^ 40 := by simp; omega
      generalize v.take m = w at *
      have hc := cloneV_walk w hwl
      refine NP.mk (by omega) ?_
      rw [(e)]
      refine NCall.atA (ACalls.frame (hc) rfl _) ?_
      refine NLoop.mk [] [4, 25, 26] (fun q vs H => ∃ i, i ≤ w.length ∧ q = w.length - i ∧ H = [.row .vrow .leaf ((mx w i).map i64)] ∧ vs = [.own 0 0 w.length, i64 w.length, i64 i]) rfl ?_ ?_
      · exact Canon.mk [0] rfl ⟨w.length, 0, Nat.zero_le _, rfl, by rw [mx_zero], rfl⟩
      · rintro q vs H ⟨i, hi, rfl, rfl, rfl⟩
        have hml := mx_len w i
        refine NB.dec (fun h3 => ?_) (fun h3 => ?_)
        · have hi' : i < w.length := by omega
          refine NP.mk (by (simp only [List.length_map, List.length_append, List.length_replicate, List.length_cons, List.length_nil, List.length_take, List.length_drop]; omega)) ?_
          refine NG.mapN (by omega) ?_
          refine NP.mk (by (simp only [List.length_map, List.length_append, List.length_replicate, List.length_cons, List.length_nil, List.length_take, List.length_drop]; omega)) ?_
          refine NG.mapN (by omega) ?_
          refine NW.i64 (by omega) (by omega) ?_
          refine Canon.mk [0] rfl ⟨w.length - (i + 1), by omega, i + 1, by omega, rfl, ?_, rfl⟩
          rw [← mx_set hi', List.map_set]
          simp only [Int.toNat_natCast, Nat.zero_add, mx_at hi']
          rfl
        · have : i = w.length := by omega
          subst this
          refine NRet.mk [] rfl (NFrz.mk ((mx w w.length).map i64) (by simp [mx_len]) (by rw [List.drop_zero, List.take_of_length_le (by simp [mx_len])]) ⟨by rw [hfin, ← mx_full]; exact .refl _, rfl⟩)

theorem vecHas_walk (v : List Int) (a b c : Int) (hl : v.length ≤ 2 ^ 40) : ACalls Try.prog Nm.vec_Has [ints v, .agg [i64 a, i64 b, i64 c]] [] (.bool (decide (1 ≤ b ∧ b ≤ vatI v a))) [] := by
  refine ACalls_of tab (dr_snd tab mixed) Nm.vec_Has_h rfl (by kernel_rfl) (Nat.le_of_ble_eq_true rfl) rfl ?_
  by_cases hk1 : 1 ≤ b
  · rw [show decide (1 ≤ b ∧ b ≤ vatI v a) = decide (b ≤ vatI v a) by simp [hk1]]
    refine NP.mk (by kernel_rfl) ?_
    apply NDr.rd [0]
    · intro fH TH
      exact ⟨rfl, rfl⟩
    apply NDr.rd [0]
    · intro fH TH
      exact ⟨rfl, rfl⟩
    apply NDr.pure
    · refine ND.yes (by omega) ?_
      exact ⟨rfl, rfl⟩
    apply NDr.pure
    · exact ⟨rfl, rfl⟩
    apply NDr.rd [0]
    · intro fH TH
      exact ⟨rfl, rfl⟩
    apply NDr.rd [0]
    · intro fH TH
      exact ⟨rfl, rfl⟩
    apply NDr.pure
    · exact ⟨rfl, rfl⟩
    apply NDr.rd [0]
    · intro fH TH
      exact ⟨rfl, rfl⟩
    apply NDr.rd [0]
    · intro fH TH
      exact ⟨rfl, rfl⟩
    apply NDr.pure
    · refine NCall.call (vecAt_walk v a hl) rfl rfl ?_
      exact ⟨rfl, rfl⟩
    apply NDr.pure
    · exact NB.det
    apply NDr.pure
    · exact ⟨rfl, rfl⟩
    apply NDr.pure
    · exact ⟨rfl, rfl⟩
    refine NP.mk (by kernel_rfl) ?_
    exact NRet.mk [] rfl ⟨.refl _, rfl⟩
  · rw [show decide (1 ≤ b ∧ b ≤ vatI v a) = false by simp [hk1]]
    refine NP.mk (by kernel_rfl) ?_
    apply NDr.rd [0]
    · intro fH TH
      exact ⟨rfl, rfl⟩
    apply NDr.rd [0]
    · intro fH TH
      exact ⟨rfl, rfl⟩
    apply NDr.pure
    · refine ND.no (by omega) ?_
      exact ⟨rfl, rfl⟩
    apply NDr.pure
    · exact ⟨rfl, rfl⟩
    apply NDr.pure
    · exact ⟨rfl, rfl⟩
    apply NDr.pure
    · exact ⟨rfl, rfl⟩
    refine NP.mk (by kernel_rfl) ?_
    exact NRet.mk [] rfl ⟨.refl _, rfl⟩

theorem vecWithin_walk (a b : List Int) (ha : a.length ≤ 2 ^ 40) (hb : b.length ≤ 2 ^ 40) : ACalls Try.prog Nm.vec_Within [ints a, ints b] [] (.bool (vwithin a b)) [] := by
  refine ACalls_of tab (dr_snd tab mixed) Nm.vec_Within_h rfl (by kernel_rfl) (Nat.le_of_ble_eq_true rfl) rfl ?_
  refine NLoop.mk [] [0, 1, 6, 7, 8] (fun m vs H => ∃ i, i ≤ a.length ∧ m = a.length - i ∧ (∀ j, j < i → vat a j ≤ vat b j) ∧ H = [] ∧ vs = [ints a, ints b, ints a, i64 a.length, i64 i]) rfl ?_ ?_
  · exact Canon.mk [] rfl ⟨a.length, 0, Nat.zero_le _, rfl, fun j hj => by omega, rfl, by simp [i64, ints]⟩
  · rintro m vs H ⟨i, hi, rfl, ht, rfl, rfl⟩
    refine NB.dec (fun h1 => ?_) (fun h1 => ?_)
    · refine NCall.call (vecAt_walk a i ha) rfl rfl ?_
      refine NCall.call (vecAt_walk b i hb) rfl rfl ?_
      have hva : vatI a i = vat a i := by unfold vatI; rw [if_neg (by omega), Int.toNat_natCast]
      have hvb : vatI b i = vat b i := by unfold vatI; rw [if_neg (by omega), Int.toNat_natCast]
      refine NB.dec (fun h2 => ?_) (fun h2 => ?_)
      · have : vwithin a b = false := by
          cases hq : vwithin a b with
          | false => rfl
          | true => have := (vwithin_iff a b).1 hq i; omega
        rw [this]
        exact NRet.mk [] rfl ⟨.refl _, rfl⟩
      · refine NW.i64 (by omega) (by omega) ?_
        refine Canon.mk [] rfl ⟨a.length - (i + 1), by omega, i + 1, by omega, rfl, fun j hj => ?_, rfl, rfl⟩
        rcases Nat.lt_or_ge j i with h | h
        · exact ht j h
        · rw [show j = i by omega]; omega
    · have : vwithin a b = true := (vwithin_iff a b).2 fun j => by
        rcases Nat.lt_or_ge j a.length with h | h
        · exact ht j (by omega)
        · rw [vat_out h]; exact vat_nonneg b j
      rw [this]
      exact NRet.mk [] rfl ⟨.refl _, rfl⟩
/-- The function that takes the greater (the lesser) of two. -/
theorem joinF_walk (x y : Int) : ACalls Try.prog Nm.vec_Join_1 [i64 x, i64 y] [] (i64 (max x y)) [] := by
  refine ACalls_of tab (dr_snd tab mixed) Nm.vec_Join_1_h rfl (by kernel_rfl) (Nat.le_of_ble_eq_true rfl) rfl ?_
  exact NRet.mk [] rfl ⟨.refl _, rfl⟩
theorem meetF_walk (x y : Int) : ACalls Try.prog Nm.vec_Meet_1 [i64 x, i64 y] [] (i64 (min x y)) [] := by
  refine ACalls_of tab (dr_snd tab mixed) Nm.vec_Meet_1_h rfl (by kernel_rfl) (Nat.le_of_ble_eq_true rfl) rfl ?_
  exact NRet.mk [] rfl ⟨.refl _, rfl⟩

theorem vecBoth_walk (f : Int → Int → Int) (g : Nat) (hg : ∀ x y, ACalls Try.prog g [i64 x, i64 y] [] (i64 (f x y)) []) (a b : List Int) (ha : a.length ≤ 2 ^ 40) (hb : b.length ≤ 2 ^ 40) :
    ACalls Try.prog Nm.vec_both [ints a, ints b, .fn g []] [] (ints (trim (both f a b))) [] := by
  refine ACalls_of tab (dr_snd tab mixed) Nm.vec_both_h rfl (by kernel_rfl) (Nat.le_of_ble_eq_true rfl) rfl ?_
  refine NP.mk (by (simp; omega)) ?_
  refine NMk.own ?_
  have eN : (max ((a.map i64).length : Int) ((b.map i64).length : Int)).toNat = max a.length b.length := by simp only [List.length_map]; omega
  generalize hN : max a.length b.length = N at *
  refine NLoop.mk [] [0, 1, 2, 7, 16, 17] (fun m vs H => ∃ i, i ≤ N ∧ m = N - i ∧ H = [.row .row .leaf ((bs f a b i).map i64)] ∧ vs = [ints a, ints b, .fn g [], .own 0 0 N, i64 N, i64 i]) rfl ?_ ?_
  · refine Canon.mk [0] rfl ⟨N, 0, Nat.zero_le _, rfl, ?_, ?_⟩
    · rw [eN, bs_zero, hN, List.map_replicate]; rfl
    · rw [eN]; rfl
  · rintro m vs H ⟨i, hi, rfl, rfl, rfl⟩
    have hbl : (bs f a b i).length = N := by rw [bs_len (by omega), hN]
    refine NB.dec (fun h1 => ?_) (fun h1 => ?_)
    · have hi' : i < N := by omega
      have hva : vatI a i = vat a i := by unfold vatI; rw [if_neg (by omega), Int.toNat_natCast]
      have hvb : vatI b i = vat b i := by unfold vatI; rw [if_neg (by omega), Int.toNat_natCast]
      have h2 := vecAt_walk a i ha
      have h3 := vecAt_walk b i hb
      rw [hva] at h2
      rw [hvb] at h3
      refine NCall.call (h2) rfl rfl ?_
      refine NCall.call (h3) rfl rfl ?_
      refine NCall.call (hg (vat a i) (vat b i)) rfl rfl ?_
      refine NP.mk (by (simp only [List.length_map, List.length_append, List.length_replicate, List.length_cons, List.length_nil, List.length_take, List.length_drop]; omega)) ?_
      refine NG.mapN (by omega) ?_
      refine NW.i64 (by omega) (by omega) ?_
      refine Canon.mk [0] rfl ⟨N - (i + 1), by omega, i + 1, by omega, rfl, ?_, rfl⟩
      rw [← bs_set (by omega), List.map_set]
      simp only [Int.toNat_natCast, Nat.zero_add]
      rfl
    · have : i = N := by omega
      subst this
      have hbf := bs_full f a b
      rw [hN] at hbf
      rw [hbf]
      have hb2 := both_len f a b
      rw [hN] at hb2
      refine NCall.frzAllN [0] (vecTrim_walk (both f a b) (by omega)) (.cons (.own (by simp) rfl (by simp) (by simp; omega) (by rw [List.drop_zero, List.take_of_length_le (by simp; omega)])) .nil) rfl rfl rfl ?_
      exact NRet.mk [] rfl ⟨.refl _, rfl⟩

theorem vecWith_walk (v : List Int) (node n : Int) (hl : v.length ≤ 2 ^ 39) (h : 0 ≤ node ∧ node < 8 ∧ 0 ≤ n ∧ n ≤ 1073741824) : ACalls Try.prog Nm.vec_With [ints v, i64 node, i64 n] [] (.tup [ints (trim (vset v node.toNat n)), i64 0]) [] := by
  refine ACalls_of tab (dr_snd tab mixed) Nm.vec_With_h rfl (by kernel_rfl) (Nat.le_of_ble_eq_true rfl) rfl ?_
  obtain ⟨j, rfl⟩ : ∃ j : Nat, node = j := ⟨node.toNat, by omega⟩
  refine ND.no (by omega) ?_
  refine ND.no (by omega) ?_
  refine ND.no (by omega) ?_
  refine ND.no (by omega) ?_
  refine NCall.atA (ACalls.frame (cloneV_walk v (by omega)) rfl _) ?_
  refine NLoop.mk [] [1, 2, 8] (fun m vs H => ∃ k, k ≤ j + 1 - v.length ∧ m = (j + 1 - v.length) - k ∧ H = [.row .vrow .leaf ((v ++ List.replicate k 0).map i64)] ∧ vs = [i64 j, i64 n, .own 0 0 (v.length + k)]) rfl ?_ ?_
  · exact Canon.mk [0] rfl ⟨_, 0, Nat.zero_le _, rfl, by simp, rfl⟩
  · rintro m vs H ⟨k, hk, rfl, rfl, rfl⟩
    refine NB.dec (fun h1 => ?_) (fun h1 => ?_)
    · refine NFz.own ?_
      refine NApp.endA (by simp) (by simp; omega) ?_
      refine Canon.mk [1] rfl ⟨j + 1 - v.length - (k + 1), by omega, k + 1, by omega, rfl, ?_, ?_⟩
      · rw [List.replicate_succ', ← List.append_assoc, List.map_append (l₁ := v ++ List.replicate k 0)]; rfl
      · have hlen : ∀ z : AV, ((v ++ List.replicate k 0).map i64 ++ [z]).length = v.length + (k + 1) := fun z => by
          simp only [List.length_append, List.length_map, List.length_replicate, List.length_cons, List.length_nil]; omega
        exact congrArg (fun x => [i64 j, i64 n, AV.own 0 0 x]) (hlen _)
    · have hk' : k = j + 1 - v.length := by omega
      subst hk'
      have hvs : ((v ++ List.replicate (j + 1 - v.length) 0).map i64).set (0 + (j : Int).toNat) (AV.int .i64 n) = (vset v j n).map i64 := by
        rw [vset, List.map_set, Int.toNat_natCast, Nat.zero_add]; rfl
      have hvl : (vset v j n).length = v.length + (j + 1 - v.length) := by simp [vset]
      refine NP.mk (by (simp only [List.length_map, List.length_append, List.length_replicate, List.length_cons, List.length_nil, List.length_take, List.length_drop]; omega)) ?_
      refine NG.mapN (by (simp only [List.length_map, List.length_append, List.length_replicate, List.length_cons, List.length_nil, List.length_take, List.length_drop]; omega)) ?_
      refine NCall.frzAllN [0] (vecTrim_walk (vset v j n) (by omega)) (.cons (.own (by simp) rfl (by simp) (by simp) (by rw [List.drop_zero, hvs, List.take_of_length_le (by simp; omega)])) .nil) rfl rfl rfl ?_
      exact NRet.mk [] rfl ⟨.refl _, rfl⟩
theorem vecWith_bad (v : List Int) (node n : Int) (h : ¬ (0 ≤ node ∧ node < 8 ∧ 0 ≤ n ∧ n ≤ 1073741824)) : ACalls Try.prog Nm.vec_With [ints v, i64 node, i64 n] [] (.tup [ints [], i64 1]) [] := by
  refine ACalls_of tab (dr_snd tab mixed) Nm.vec_With_h rfl (by kernel_rfl) (Nat.le_of_ble_eq_true rfl) rfl ?_
  refine NB.dec (fun hk1 => ?_) (fun hk1 => ?_)
  · exact NRet.mk [] rfl ⟨by repeat (first | exact LeA.refl _ | exact LeA.nils _ | refine LeA.agg ?_ | refine LeA.tup ?_ | exact LeAs.nil | refine LeAs.cons ?_ ?_), rfl⟩
  refine NB.dec (fun hk2 => ?_) (fun hk2 => ?_)
  · exact NRet.mk [] rfl ⟨by repeat (first | exact LeA.refl _ | exact LeA.nils _ | refine LeA.agg ?_ | refine LeA.tup ?_ | exact LeAs.nil | refine LeAs.cons ?_ ?_), rfl⟩
  refine NB.dec (fun hk3 => ?_) (fun hk3 => ?_)
  · exact NRet.mk [] rfl ⟨by repeat (first | exact LeA.refl _ | exact LeA.nils _ | refine LeA.agg ?_ | refine LeA.tup ?_ | exact LeAs.nil | refine LeAs.cons ?_ ?_), rfl⟩
  refine ND.yes (by omega) ?_
  exact NRet.mk [] rfl ⟨by repeat (first | exact LeA.refl _ | exact LeA.nils _ | refine LeA.agg ?_ | refine LeA.tup ?_ | exact LeAs.nil | refine LeAs.cons ?_ ?_), rfl⟩

theorem vecJoin_walk (a b : List Int) (ha : a.length ≤ 2 ^ 40) (hb : b.length ≤ 2 ^ 40) : ACalls Try.prog Nm.vec_Join [ints a, ints b] [] (ints (join a b)) [] := by
  refine ACalls_of tab (dr_snd tab mixed) Nm.vec_Join_h rfl (by kernel_rfl) (Nat.le_of_ble_eq_true rfl) rfl ?_
  refine NCall.call (vecBoth_walk max _ joinF_walk a b ha hb) rfl rfl ?_
  exact NRet.mk [] rfl ⟨.refl _, rfl⟩
theorem vecMeet_walk (a b : List Int) (ha : a.length ≤ 2 ^ 40) (hb : b.length ≤ 2 ^ 40) : ACalls Try.prog Nm.vec_Meet [ints a, ints b] [] (ints (meet a b)) [] := by
  refine ACalls_of tab (dr_snd tab mixed) Nm.vec_Meet_h rfl (by kernel_rfl) (Nat.le_of_ble_eq_true rfl) rfl ?_
  refine NCall.call (vecBoth_walk min _ meetF_walk a b ha hb) rfl rfl ?_
  exact NRet.mk [] rfl ⟨.refl _, rfl⟩

theorem equal7_walk (a b : List Int) (ha : a.length ≤ 2 ^ 40) : ACalls Try.prog Nm.ref07_Equal [ints a, ints b] [] (.bool (decide (a = b))) [] := by
  refine ACalls_of tab (dr_snd tab mixed) Nm.ref07_Equal_h rfl (by kernel_rfl) (Nat.le_of_ble_eq_true rfl) rfl ?_
  refine NB.dec (fun h => ?_) (fun h => ?_)
  · have hab : a.length = b.length := by simp only [List.length_map] at h; omega
    refine NLoop.mk [] [0, 1, 5] (fun m vs H => ∃ i, i ≤ a.length ∧ m = a.length - i ∧ a.take i = b.take i ∧ H = [] ∧ vs = [ints a, ints b, i64 i]) rfl ?_ ?_
    · exact Canon.mk [] rfl ⟨a.length, 0, Nat.zero_le _, rfl, rfl, rfl, rfl⟩
    · rintro m vs H ⟨i, hi, rfl, ht, rfl, rfl⟩
      refine NB.dec (fun h => ?_) (fun h => ?_)
      · have hi' : i < a.length := by simpa using h
        have hib : i < b.length := by omega
        by_cases hk1 : a[i] = b[i]
        rotate_left
        · have : a ≠ b := fun e => by subst e; exact hk1 rfl
          rw [decide_eq_false this]
          refine NP.mk (by kernel_rfl) ?_
          apply NDr.pure
          · exact ⟨rfl, rfl⟩
          apply NDr.pure
          · exact ⟨rfl, rfl⟩
          apply NDr.pure
          · refine NP.mk (by omega) ?_
            refine NG.mapN (by omega) ?_
            exact ⟨rfl, rfl⟩
          apply NDr.pure
          · exact ⟨rfl, rfl⟩
          apply NDr.pure
          · exact ⟨rfl, rfl⟩
          apply NDr.pure
          · exact ⟨rfl, rfl⟩
          apply NDr.pure
          · refine NP.mk (by omega) ?_
            refine NG.mapN (by omega) ?_
            exact ⟨rfl, rfl⟩
          apply NDr.pure
          · exact ⟨rfl, rfl⟩
          apply NDr.pure
          · refine ND.no (by omega) ?_
            exact ⟨rfl, rfl⟩
          refine NP.mk (by kernel_rfl) ?_
          exact NRet.mk [] rfl ⟨.refl _, rfl⟩
        · refine NP.mk (by kernel_rfl) ?_
          apply NDr.pure
          · exact ⟨rfl, rfl⟩
          apply NDr.pure
          · exact ⟨rfl, rfl⟩
          apply NDr.pure
          · refine NP.mk (by omega) ?_
            refine NG.mapN (by omega) ?_
            exact ⟨rfl, rfl⟩
          apply NDr.pure
          · exact ⟨rfl, rfl⟩
          apply NDr.pure
          · exact ⟨rfl, rfl⟩
          apply NDr.pure
          · exact ⟨rfl, rfl⟩
          apply NDr.pure
          · refine NP.mk (by omega) ?_
            refine NG.mapN (by omega) ?_
            exact ⟨rfl, rfl⟩
          apply NDr.pure
          · exact ⟨rfl, rfl⟩
          apply NDr.pure
          · refine ND.yes (by omega) ?_
            exact ⟨rfl, rfl⟩
          refine NP.mk (by kernel_rfl) ?_
          refine NW.i64 (by omega) (by omega) ?_
          refine Canon.mk [] rfl ⟨a.length - (i + 1), by omega, i + 1, by omega, rfl, ?_, rfl, rfl⟩
          rw [List.take_succ_eq_append_getElem hi', List.take_succ_eq_append_getElem hib, ht]
          rw [hk1]
      · have : i = a.length := by simp only [List.length_map] at h; omega
        subst this
        rw [hab, List.take_length, ← hab, List.take_length] at ht
        rw [decide_eq_true ht]
        exact NRet.mk [] rfl ⟨.refl _, rfl⟩
  · have hab : a ≠ b := fun e => h (by subst e; rfl)
    rw [decide_eq_false hab]
    exact NRet.mk [] rfl ⟨.refl _, rfl⟩

end Go.Bv
