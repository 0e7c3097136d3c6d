/- Part of the lift: an abstract walk of the program's code, proved sound, and what it shows of this program. -/
import Derived.Test.YtkehoabgejdpgaaSvVecO
namespace Go.Bv
set_option linter.unusedSimpArgs false
set_option linter.unusedVariables false
set_option maxHeartbeats 4000000
open Go Go.Proofs

theorem copy7_walk (v : List Int) (hl : v.length ≤ 2 ^ 40) : ACalls Try.prog Nm.ref07_Copy [ints v] [] (ints v) [] := by
  refine ACalls_of tab (dr_snd tab mixed) Nm.ref07_Copy_h rfl (by kernel_rfl) (Nat.le_of_ble_eq_true rfl) rfl ?_
  refine NFz.own ?_
  refine NApp.endA rfl (by simp; omega) ?_
  exact NRet.mk [] rfl (NFrz.mk (v.map i64) (by simp) (by rw [List.drop_zero, List.take_of_length_le (by simp)]) ⟨.refl _, rfl⟩)

theorem at7_walk (v : List Int) (n : Int) (hl : v.length ≤ 2 ^ 40) : ACalls Try.prog Nm.ref07_At [ints v, i64 n] [] (i64 (vatI v n)) [] := by
  refine ACalls_of tab (dr_snd tab mixed) Nm.ref07_At_h rfl (by kernel_rfl) (Nat.le_of_ble_eq_true rfl) rfl ?_
  refine NLoop.mk [] [0, 1, 5] (fun m vs H => ∃ i, i ≤ v.length ∧ m = v.length - i ∧ (∀ j : Nat, j < i → (j : Int) = n → vat v j = 0) ∧ H = [] ∧ vs = [ints v, i64 n, i64 i]) rfl ?_ ?_
  · exact Canon.mk [] rfl ⟨v.length, 0, Nat.zero_le _, rfl, fun j hj => by omega, rfl, rfl⟩
  · rintro m vs H ⟨i, hi, rfl, ht, rfl, rfl⟩
    refine NB.dec (fun h1 => ?_) (fun h1 => ?_)
    · have hi' : i < v.length := by simp only [List.length_map] at h1; omega
      have hvi := vat_in hi'
      skip
      refine NB.dec (fun h2 => ?_) (fun h2 => ?_)
      · subst h2
        rw [vatI_nat]
        refine NP.mk (by omega) ?_
        refine NG.mapN (by omega) ?_
        refine NB.dec (fun h3 => ?_) (fun h3 => ?_)
        · rw [hvi, show max v[i] 0 = v[i] by omega]
          refine NP.mk (by omega) ?_
          refine NG.mapN (by omega) ?_
          exact NRet.mk [] rfl ⟨.refl _, rfl⟩
        · refine NW.i64 (by omega) (by omega) ?_
          exact Canon.mk [] rfl ⟨v.length - (i + 1), by omega, i + 1, by omega, rfl, fun j hj hji => by
            rw [show j = i by omega, hvi]; omega, rfl, rfl⟩
      · refine NW.i64 (by omega) (by omega) ?_
        exact Canon.mk [] rfl ⟨v.length - (i + 1), by omega, i + 1, by omega, rfl, fun j hj hji => by
          rcases Nat.lt_or_ge j i with h | h
          · exact ht j h hji
          · omega, rfl, rfl⟩
    · have : vatI v n = 0 := by
        unfold vatI
        split
        · rfl
        · rcases Nat.lt_or_ge n.toNat v.length with h | h
          · exact ht n.toNat (by simp only [List.length_map] at h1; omega) (by omega)
          · exact vat_out h
      rw [this]
      exact NRet.mk [] rfl ⟨.refl _, rfl⟩

theorem trim7_walk (v : List Int) (hl : v.length ≤ 2 ^ 40) : ACalls Try.prog Nm.ref07_Trim [ints v] [] (ints (trim v)) [] := by
  refine ACalls_of tab (dr_snd tab mixed) Nm.ref07_Trim_h rfl (by kernel_rfl) (Nat.le_of_ble_eq_true rfl) rfl ?_
  refine NLoop.mk [] [0, 3, 4] (fun m vs H => ∃ (i n : Nat), i ≤ v.length ∧ m = v.length - i ∧ n ≤ i ∧ (∀ j, n ≤ j → j < i → vat v j = 0) ∧ (n = 0 ∨ 0 < vat v (n - 1)) ∧ H = [] ∧ vs = [ints v, i64 ((n : Int) - 1), i64 i]) rfl ?_ ?_
  · exact Canon.mk [] rfl ⟨v.length, 0, 0, Nat.zero_le _, rfl, Nat.le_refl _, fun j hj hj' => by omega, .inl rfl, rfl, rfl⟩
  · rintro m vs H ⟨i, n, hi, rfl, hni, hz, hp, rfl, rfl⟩
    refine NB.dec (fun h1 => ?_) (fun h1 => ?_)
    · have hi' : i < v.length := by simp only [List.length_map] at h1; omega
      have hv := vat_in hi'
      refine NP.mk (by omega) (NG.mapN hi' ?_)
      refine NB.dec (fun h2 => ?_) (fun h2 => ?_)
      · refine NW.i64 (by omega) (by omega) ?_
        refine Canon.mk [] rfl ⟨v.length - (i + 1), by omega, i + 1, i + 1, by omega, rfl, Nat.le_refl _, fun j hj hj' => by omega, .inr (by rw [Nat.add_sub_cancel]; omega), rfl, ?_⟩
        rw [show (((i + 1 : Nat) : Int) - 1) = (i : Int) by omega]; rfl
      · refine NW.i64 (by omega) (by omega) ?_
        refine Canon.mk [] rfl ⟨v.length - (i + 1), by omega, i + 1, n, by omega, rfl, by omega, fun j hj hj' => ?_, hp, rfl, rfl⟩
        rcases Nat.lt_or_ge j i with h | h
        · exact hz j hj h
        · rw [show j = i by omega, hv]; omega
    · have hii : i = v.length := by simp only [List.length_map] at h1; omega
      subst hii
      have htr := trim_range (v := v) (n := n) (fun j hj => by
        rcases Nat.lt_or_ge j v.length with h | h
        · exact hz j hj h
        · exact vat_out h) hp
      rw [htr]
      refine NLoop.mk [(5, .leaf)] [0, 3, 5, 6] (fun m vs H => ∃ k, k ≤ n ∧ m = n - k ∧ H = [.row .vrow .leaf ((tab0 (vat v) k).map i64)] ∧ vs = [ints v, i64 ((n : Int) - 1), .own 0 0 k, i64 k]) rfl ?_ ?_
      · exact Canon.mk [0] rfl ⟨n, 0, Nat.zero_le _, rfl, rfl, rfl⟩
      · rintro q vs H ⟨k, hk, rfl, rfl, rfl⟩
        have htl := tab0_len (vat v) k
        refine NB.dec (fun h2 => ?_) (fun h2 => ?_)
        · have ha := at7_walk v k hl
          rw [vatI_nat] at ha
          refine NCall.call (ha) rfl rfl ?_
          refine NFz.own ?_
          refine NApp.endA (by simp; omega) (by simp; omega) ?_
          refine NW.i64 (by omega) (by omega) ?_
          refine Canon.mk [1] rfl ⟨n - (k + 1), by omega, k + 1, by omega, rfl, ?_, ?_⟩
          · rw [tab0_succ, List.map_append]; rfl
          · have hlen : ∀ z : AV, ((tab0 (vat v) k).map i64 ++ [z]).length = k + 1 := fun z => by simp [htl]
            exact congrArg (fun x => [ints v, i64 ((n : Int) - 1), AV.own 0 0 x, i64 ((k : Int) + 1)]) (hlen _)
        · have : k = n := by omega
          subst this
          skip
          exact NRet.mk [] rfl (NFrz.mk ((tab0 (vat v) k).map i64) (by simp [htl]) (by rw [List.drop_zero, List.take_of_length_le (by simp [htl])]) ⟨.refl _, rfl⟩)
theorem lay7_walk (a b : List Int) (up : Bool) (ha : a.length ≤ 2 ^ 39) (hb : b.length ≤ 2 ^ 39) : ACalls Try.prog Nm.ref07_Lay [ints a, ints b, .bool up] [] (ints (if up then join a b else meet a b)) [] := by
  refine ACalls_of tab (dr_snd tab mixed) Nm.ref07_Lay_h rfl (by kernel_rfl) (Nat.le_of_ble_eq_true rfl) rfl ?_
  cases up
  · -- down
    refine NLoop.mk [(7, .leaf)] [0, 1, 2, 7, 8] (fun m vs H => ∃ i, i ≤ max a.length b.length ∧ m = max a.length b.length - i ∧ H = [.row .vrow .leaf ((tab0 (fun k => min (vat a k) (vat b k)) i).map i64)] ∧ vs = [ints a, ints b, .bool false, .own 0 0 i, i64 i]) rfl ?_ ?_
    · exact Canon.mk [0] rfl ⟨_, 0, Nat.zero_le _, rfl, rfl, rfl⟩
    · rintro q vs H ⟨i, hi, rfl, rfl, rfl⟩
      have htl := tab0_len (fun k => min (vat a k) (vat b k)) i
      have h2 := at7_walk a i (by omega)
      have h3 := at7_walk b i (by omega)
      rw [vatI_nat] at h2 h3
      have hlen : ∀ z : AV, ((tab0 (fun k => min (vat a k) (vat b k)) i).map i64 ++ [z]).length = i + 1 := fun z => by simp [htl]
      have fin : ∀ z : Int, z = min (vat a i) (vat b i) → [Blk.row .vrow .leaf ((tab0 (fun k => min (vat a k) (vat b k)) i).map i64 ++ [.int .i64 z])] = [.row .vrow .leaf ((tab0 (fun k => min (vat a k) (vat b k)) (i + 1)).map i64)] := fun z hz => by
        rw [tab0_succ, List.map_append, hz]; rfl
      by_cases hin : i < max a.length b.length
      · have body : i < a.length ∨ (¬ i < a.length ∧ i < b.length) := by omega
        rcases body with hA | ⟨hA, hB⟩
        · refine ND.yes (by (simp only [List.length_map, List.length_append, List.length_replicate, List.length_cons, List.length_nil, List.length_take, List.length_drop]; omega)) ?_
          refine NCall.call (h2) rfl rfl ?_
          refine NCall.call (h3) rfl rfl ?_
          refine NB.dec (fun h => ?_) (fun h => ?_)
          · have hc : vat a i < vat b i := by simpa using h
            refine ND.no (by simp) ?_
            refine NFz.own ?_
            refine NApp.endA (by simp; omega) (by simp; omega) ?_
            refine NW.i64 (by omega) (by omega) ?_
            exact Canon.mk [1] rfl ⟨max a.length b.length - (i + 1), by omega, i + 1, by omega, rfl, fin _ (by omega), congrArg (fun x => [ints a, ints b, .bool false, AV.own 0 0 x, i64 ((i : Int) + 1)]) (hlen _)⟩
          · have hc : vat b i ≤ vat a i := by simpa using h
            refine ND.yes (by simp) ?_
            refine NFz.own ?_
            refine NApp.endA (by simp; omega) (by simp; omega) ?_
            refine NW.i64 (by omega) (by omega) ?_
            exact Canon.mk [1] rfl ⟨max a.length b.length - (i + 1), by omega, i + 1, by omega, rfl, fin _ (by omega), congrArg (fun x => [ints a, ints b, .bool false, AV.own 0 0 x, i64 ((i : Int) + 1)]) (hlen _)⟩
        · refine ND.no (by (simp only [List.length_map, List.length_append, List.length_replicate, List.length_cons, List.length_nil, List.length_take, List.length_drop]; omega)) ?_
          refine ND.yes (by (simp only [List.length_map, List.length_append, List.length_replicate, List.length_cons, List.length_nil, List.length_take, List.length_drop]; omega)) ?_
          refine NCall.call (h2) rfl rfl ?_
          refine NCall.call (h3) rfl rfl ?_
          refine NB.dec (fun h => ?_) (fun h => ?_)
          · have hc : vat a i < vat b i := by simpa using h
            refine ND.no (by simp) ?_
            refine NFz.own ?_
            refine NApp.endA (by simp; omega) (by simp; omega) ?_
            refine NW.i64 (by omega) (by omega) ?_
            exact Canon.mk [1] rfl ⟨max a.length b.length - (i + 1), by omega, i + 1, by omega, rfl, fin _ (by omega), congrArg (fun x => [ints a, ints b, .bool false, AV.own 0 0 x, i64 ((i : Int) + 1)]) (hlen _)⟩
          · have hc : vat b i ≤ vat a i := by simpa using h
            refine ND.yes (by simp) ?_
            refine NFz.own ?_
            refine NApp.endA (by simp; omega) (by simp; omega) ?_
            refine NW.i64 (by omega) (by omega) ?_
            exact Canon.mk [1] rfl ⟨max a.length b.length - (i + 1), by omega, i + 1, by omega, rfl, fin _ (by omega), congrArg (fun x => [ints a, ints b, .bool false, AV.own 0 0 x, i64 ((i : Int) + 1)]) (hlen _)⟩

      · have : i = max a.length b.length := by omega
        refine ND.no (by (simp only [List.length_map, List.length_append, List.length_replicate, List.length_cons, List.length_nil, List.length_take, List.length_drop]; omega)) ?_
        refine ND.no (by (simp only [List.length_map, List.length_append, List.length_replicate, List.length_cons, List.length_nil, List.length_take, List.length_drop]; omega)) ?_
        refine NCall.frzAllN [0] (trim7_walk (tab0 (fun k => min (vat a k) (vat b k)) i) (by omega)) (.cons (.own (by simp) rfl (by simp) (by simp; omega) (by rw [List.drop_zero, List.take_of_length_le (by simp; omega)])) .nil) rfl rfl rfl ?_
        subst this
        exact NRet.mk [] rfl ⟨.refl _, rfl⟩
  · -- up
    refine NLoop.mk [(7, .leaf)] [0, 1, 2, 7, 8] (fun m vs H => ∃ i, i ≤ max a.length b.length ∧ m = max a.length b.length - i ∧ H = [.row .vrow .leaf ((tab0 (fun k => max (vat a k) (vat b k)) i).map i64)] ∧ vs = [ints a, ints b, .bool true, .own 0 0 i, i64 i]) rfl ?_ ?_
    · exact Canon.mk [0] rfl ⟨_, 0, Nat.zero_le _, rfl, rfl, rfl⟩
    · rintro q vs H ⟨i, hi, rfl, rfl, rfl⟩
      have htl := tab0_len (fun k => max (vat a k) (vat b k)) i
      have h2 := at7_walk a i (by omega)
      have h3 := at7_walk b i (by omega)
      rw [vatI_nat] at h2 h3
      have hlen : ∀ z : AV, ((tab0 (fun k => max (vat a k) (vat b k)) i).map i64 ++ [z]).length = i + 1 := fun z => by simp [htl]
      have fin : ∀ z : Int, z = max (vat a i) (vat b i) → [Blk.row .vrow .leaf ((tab0 (fun k => max (vat a k) (vat b k)) i).map i64 ++ [.int .i64 z])] = [.row .vrow .leaf ((tab0 (fun k => max (vat a k) (vat b k)) (i + 1)).map i64)] := fun z hz => by
        rw [tab0_succ, List.map_append, hz]; rfl
      by_cases hin : i < max a.length b.length
      · have body : i < a.length ∨ (¬ i < a.length ∧ i < b.length) := by omega
        rcases body with hA | ⟨hA, hB⟩
        · refine ND.yes (by (simp only [List.length_map, List.length_append, List.length_replicate, List.length_cons, List.length_nil, List.length_take, List.length_drop]; omega)) ?_
          refine NCall.call (h2) rfl rfl ?_
          refine NCall.call (h3) rfl rfl ?_
          refine NB.dec (fun h => ?_) (fun h => ?_)
          · have hc : vat a i < vat b i := by simpa using h
            refine ND.yes (by simp) ?_
            refine NFz.own ?_
            refine NApp.endA (by simp; omega) (by simp; omega) ?_
            refine NW.i64 (by omega) (by omega) ?_
            exact Canon.mk [1] rfl ⟨max a.length b.length - (i + 1), by omega, i + 1, by omega, rfl, fin _ (by omega), congrArg (fun x => [ints a, ints b, .bool true, AV.own 0 0 x, i64 ((i : Int) + 1)]) (hlen _)⟩
          · have hc : vat b i ≤ vat a i := by simpa using h
            refine ND.no (by simp) ?_
            refine NFz.own ?_
            refine NApp.endA (by simp; omega) (by simp; omega) ?_
            refine NW.i64 (by omega) (by omega) ?_
            exact Canon.mk [1] rfl ⟨max a.length b.length - (i + 1), by omega, i + 1, by omega, rfl, fin _ (by omega), congrArg (fun x => [ints a, ints b, .bool true, AV.own 0 0 x, i64 ((i : Int) + 1)]) (hlen _)⟩
        · refine ND.no (by (simp only [List.length_map, List.length_append, List.length_replicate, List.length_cons, List.length_nil, List.length_take, List.length_drop]; omega)) ?_
          refine ND.yes (by (simp only [List.length_map, List.length_append, List.length_replicate, List.length_cons, List.length_nil, List.length_take, List.length_drop]; omega)) ?_
          refine NCall.call (h2) rfl rfl ?_
          refine NCall.call (h3) rfl rfl ?_
          refine NB.dec (fun h => ?_) (fun h => ?_)
          · have hc : vat a i < vat b i := by simpa using h
            refine ND.yes (by simp) ?_
            refine NFz.own ?_
            refine NApp.endA (by simp; omega) (by simp; omega) ?_
            refine NW.i64 (by omega) (by omega) ?_
            exact Canon.mk [1] rfl ⟨max a.length b.length - (i + 1), by omega, i + 1, by omega, rfl, fin _ (by omega), congrArg (fun x => [ints a, ints b, .bool true, AV.own 0 0 x, i64 ((i : Int) + 1)]) (hlen _)⟩
          · have hc : vat b i ≤ vat a i := by simpa using h
            refine ND.no (by simp) ?_
            refine NFz.own ?_
            refine NApp.endA (by simp; omega) (by simp; omega) ?_
            refine NW.i64 (by omega) (by omega) ?_
            exact Canon.mk [1] rfl ⟨max a.length b.length - (i + 1), by omega, i + 1, by omega, rfl, fin _ (by omega), congrArg (fun x => [ints a, ints b, .bool true, AV.own 0 0 x, i64 ((i : Int) + 1)]) (hlen _)⟩

      · have : i = max a.length b.length := by omega
        refine ND.no (by (simp only [List.length_map, List.length_append, List.length_replicate, List.length_cons, List.length_nil, List.length_take, List.length_drop]; omega)) ?_
        refine ND.no (by (simp only [List.length_map, List.length_append, List.length_replicate, List.length_cons, List.length_nil, List.length_take, List.length_drop]; omega)) ?_
        refine NCall.frzAllN [0] (trim7_walk (tab0 (fun k => max (vat a k) (vat b k)) i) (by omega)) (.cons (.own (by simp) rfl (by simp) (by simp; omega) (by rw [List.drop_zero, List.take_of_length_le (by simp; omega)])) .nil) rfl rfl rfl ?_
        subst this
        exact NRet.mk [] rfl ⟨.refl _, rfl⟩

theorem same7_walk (a b : List Int) (ha : a.length ≤ 2 ^ 39) (hb : b.length ≤ 2 ^ 39) : ACalls Try.prog Nm.ref07_Same [ints a, ints b] [] (.bool (decide (trim a = trim b))) [] := by
  refine ACalls_of tab (dr_snd tab mixed) Nm.ref07_Same_h rfl (by kernel_rfl) (Nat.le_of_ble_eq_true rfl) rfl ?_
  refine NLoop.mk [] [0, 1, 5] (fun m vs H => ∃ i, i ≤ max a.length b.length ∧ m = max a.length b.length - i ∧ (∀ j, j < i → vat a j = vat b j) ∧ H = [] ∧ vs = [ints a, ints b, i64 i]) rfl ?_ ?_
  · exact Canon.mk [] rfl ⟨_, 0, Nat.zero_le _, rfl, fun j hj => by omega, rfl, rfl⟩
  · rintro q vs H ⟨i, hi, rfl, ht, rfl, rfl⟩
    have h2 := at7_walk a i (by omega)
    have h3 := at7_walk b i (by omega)
    rw [vatI_nat] at h2 h3
    have neq : vat a i ≠ vat b i → decide (trim a = trim b) = false := fun hne => decide_eq_false fun e => hne (by rw [← vat_trim a, ← vat_trim b, e])
    have nxt : vat a i = vat b i → ∀ j, j < i + 1 → vat a j = vat b j := fun he j hj => by
      rcases Nat.lt_or_ge j i with h | h
      · exact ht j h
      · rw [show j = i by omega]; exact he
    by_cases hin : i < max a.length b.length
    · have body : i < a.length ∨ (¬ i < a.length ∧ i < b.length) := by omega
      rcases body with hA | ⟨hA, hB⟩
      · refine ND.yes (by (simp only [List.length_map, List.length_append, List.length_replicate, List.length_cons, List.length_nil, List.length_take, List.length_drop]; omega)) ?_
        refine NCall.call (h2) rfl rfl ?_
        refine NCall.call (h3) rfl rfl ?_
        refine NB.dec (fun hc => ?_) (fun hc => ?_)
        · refine NW.i64 (by omega) (by omega) ?_
          exact Canon.mk [] rfl ⟨max a.length b.length - (i + 1), by omega, i + 1, by omega, rfl, nxt hc, rfl, rfl⟩
        · rw [neq hc]
          exact NRet.mk [] rfl ⟨.refl _, rfl⟩
      · refine ND.no (by (simp only [List.length_map, List.length_append, List.length_replicate, List.length_cons, List.length_nil, List.length_take, List.length_drop]; omega)) ?_
        refine ND.yes (by (simp only [List.length_map, List.length_append, List.length_replicate, List.length_cons, List.length_nil, List.length_take, List.length_drop]; omega)) ?_
        refine NCall.call (h2) rfl rfl ?_
        refine NCall.call (h3) rfl rfl ?_
        refine NB.dec (fun hc => ?_) (fun hc => ?_)
        · refine NW.i64 (by omega) (by omega) ?_
          exact Canon.mk [] rfl ⟨max a.length b.length - (i + 1), by omega, i + 1, by omega, rfl, nxt hc, rfl, rfl⟩
        · rw [neq hc]
          exact NRet.mk [] rfl ⟨.refl _, rfl⟩
    · have : decide (trim a = trim b) = true := decide_eq_true (trim_ext _ _ fun j => by
        rcases Nat.lt_or_ge j i with h | h
        · exact ht j h
        · rw [vat_out (by omega), vat_out (by omega)])
      rw [this]
      refine ND.no (by (simp only [List.length_map, List.length_append, List.length_replicate, List.length_cons, List.length_nil, List.length_take, List.length_drop]; omega)) ?_
      refine ND.no (by (simp only [List.length_map, List.length_append, List.length_replicate, List.length_cons, List.length_nil, List.length_take, List.length_drop]; omega)) ?_
      exact NRet.mk [] rfl ⟨.refl _, rfl⟩

theorem with7_walk (v : List Int) (node n : Int) (hl : v.length ≤ 2 ^ 39) (h : 0 ≤ node ∧ node < 8 ∧ 0 ≤ n ∧ n ≤ 1073741824) : ACalls Try.prog Nm.ref07_With [ints v, i64 node, i64 n] [] (.tup [ints (trim (vset v node.toNat n)), i64 0]) [] := by
  refine ACalls_of tab (dr_snd tab mixed) Nm.ref07_With_h rfl (by kernel_rfl) (Nat.le_of_ble_eq_true rfl) rfl ?_
  obtain ⟨j, rfl⟩ : ∃ j : Nat, node = j := ⟨node.toNat, by omega⟩
  rw [Int.toNat_natCast]
  refine ND.no (by omega) ?_
  refine ND.no (by omega) ?_
  refine ND.no (by omega) ?_
  refine ND.no (by omega) ?_
  refine NLoop.mk [(8, .leaf)] [0, 1, 2, 8, 9] (fun m vs H => ∃ i, i ≤ max v.length (j + 1) ∧ m = max v.length (j + 1) - i ∧ H = [.row .vrow .leaf ((tab0 (fun k => if k = j then n else vat v k) i).map i64)] ∧ vs = [ints v, i64 j, i64 n, .own 0 0 i, i64 i]) rfl ?_ ?_
  · exact Canon.mk [0] rfl ⟨_, 0, Nat.zero_le _, rfl, rfl, rfl⟩
  · rintro q vs H ⟨i, hi, rfl, rfl, rfl⟩
    have htl := tab0_len (fun k => if k = j then n else vat v k) i
    have h2 := at7_walk v i (by omega)
    rw [vatI_nat] at h2
    have hlen : ∀ z : AV, ((tab0 (fun k => if k = j then n else vat v k) i).map i64 ++ [z]).length = i + 1 := fun z => by simp [htl]
    have fin : ∀ z : Int, z = (if i = j then n else vat v i) → [Blk.row .vrow .leaf ((tab0 (fun k => if k = j then n else vat v k) i).map i64 ++ [.int .i64 z])] = [.row .vrow .leaf ((tab0 (fun k => if k = j then n else vat v k) (i + 1)).map i64)] := fun z hz => by
      rw [tab0_succ, List.map_append, hz]; rfl
    have finv : ∀ z : AV, [ints v, i64 j, i64 n, AV.own 0 0 ((tab0 (fun k => if k = j then n else vat v k) i).map i64 ++ [z]).length, i64 ((i : Int) + 1)] = [ints v, i64 j, i64 n, AV.own 0 0 (i + 1), i64 ((i : Int) + 1)] := fun z => by rw [hlen z]
    by_cases hin : i < max v.length (j + 1)
    · have body : i < v.length ∨ (¬ i < v.length ∧ i ≤ j) := by omega
      rcases body with hA | ⟨hA, hB⟩
      · by_cases he : i = j
        · refine ND.yes (by (simp only [List.length_map, List.length_append, List.length_replicate, List.length_cons, List.length_nil, List.length_take, List.length_drop]; omega)) ?_
          refine ND.yes (by omega) ?_
          refine NFz.own ?_
          refine NApp.endA (by simp; omega) (by simp; omega) ?_
          refine NW.i64 (by omega) (by omega) ?_
          exact Canon.mk [1] rfl ⟨max v.length (j + 1) - (i + 1), by omega, i + 1, by omega, rfl, fin _ (by rw [if_pos he]), finv _⟩
        · refine ND.yes (by (simp only [List.length_map, List.length_append, List.length_replicate, List.length_cons, List.length_nil, List.length_take, List.length_drop]; omega)) ?_
          refine ND.no (by omega) ?_
          refine NCall.call (h2) rfl rfl ?_
          refine NFz.own ?_
          refine NApp.endA (by simp; omega) (by simp; omega) ?_
          refine NW.i64 (by omega) (by omega) ?_
          exact Canon.mk [1] rfl ⟨max v.length (j + 1) - (i + 1), by omega, i + 1, by omega, rfl, fin _ (by rw [if_neg he]), finv _⟩
      · by_cases he : i = j
        · refine ND.no (by (simp only [List.length_map, List.length_append, List.length_replicate, List.length_cons, List.length_nil, List.length_take, List.length_drop]; omega)) ?_
          refine ND.yes (by omega) ?_
          refine ND.yes (by omega) ?_
          refine NFz.own ?_
          refine NApp.endA (by simp; omega) (by simp; omega) ?_
          refine NW.i64 (by omega) (by omega) ?_
          exact Canon.mk [1] rfl ⟨max v.length (j + 1) - (i + 1), by omega, i + 1, by omega, rfl, fin _ (by rw [if_pos he]), finv _⟩
        · refine ND.no (by (simp only [List.length_map, List.length_append, List.length_replicate, List.length_cons, List.length_nil, List.length_take, List.length_drop]; omega)) ?_
          refine ND.yes (by omega) ?_
          refine ND.no (by omega) ?_
          refine NCall.call (h2) rfl rfl ?_
          refine NFz.own ?_
          refine NApp.endA (by simp; omega) (by simp; omega) ?_
          refine NW.i64 (by omega) (by omega) ?_
          exact Canon.mk [1] rfl ⟨max v.length (j + 1) - (i + 1), by omega, i + 1, by omega, rfl, fin _ (by rw [if_neg he]), finv _⟩
    · have hiN : i = max v.length (j + 1) := by omega
      have et : trim (tab0 (fun k => if k = j then n else vat v k) i) = trim (vset v j n) := trim_ext _ _ fun k => by
        rw [vat_tab0, vat_vset _ _ _ h.2.2.1]
        have := vat_nonneg v k
        split
        · split <;> omega
        · rw [if_neg (by omega), vat_out (by omega)]
      have htr := trim7_walk (tab0 (fun k => if k = j then n else vat v k) i) (by omega)
      rw [et] at htr
      refine ND.no (by (simp only [List.length_map, List.length_append, List.length_replicate, List.length_cons, List.length_nil, List.length_take, List.length_drop]; omega)) ?_
      refine ND.no (by omega) ?_
      refine NCall.frzAllN [0] htr (.cons (.own (by simp) rfl (by simp) (by simp; omega) (by rw [List.drop_zero, List.take_of_length_le (by simp; omega)])) .nil) rfl rfl rfl ?_
      exact NRet.mk [] rfl ⟨.refl _, rfl⟩
theorem with7_bad (v : List Int) (node n : Int) (h : ¬ (0 ≤ node ∧ node < 8 ∧ 0 ≤ n ∧ n ≤ 1073741824)) : ACalls Try.prog Nm.ref07_With [ints v, i64 node, i64 n] [] (.tup [ints [], i64 1]) [] := by
  refine ACalls_of tab (dr_snd tab mixed) Nm.ref07_With_h rfl (by kernel_rfl) (Nat.le_of_ble_eq_true rfl) rfl ?_
  refine NB.dec (fun hk1 => ?_) (fun hk1 => ?_)
  · exact NRet.mk [] rfl ⟨by repeat (first | exact LeA.refl _ | exact LeA.nils _ | refine LeA.agg ?_ | refine LeA.tup ?_ | exact LeAs.nil | refine LeAs.cons ?_ ?_), rfl⟩
  refine NB.dec (fun hk2 => ?_) (fun hk2 => ?_)
  · exact NRet.mk [] rfl ⟨by repeat (first | exact LeA.refl _ | exact LeA.nils _ | refine LeA.agg ?_ | refine LeA.tup ?_ | exact LeAs.nil | refine LeAs.cons ?_ ?_), rfl⟩
  refine NB.dec (fun hk3 => ?_) (fun hk3 => ?_)
  · exact NRet.mk [] rfl ⟨by repeat (first | exact LeA.refl _ | exact LeA.nils _ | refine LeA.agg ?_ | refine LeA.tup ?_ | exact LeAs.nil | refine LeAs.cons ?_ ?_), rfl⟩
  refine ND.yes (by omega) ?_
  exact NRet.mk [] rfl ⟨by repeat (first | exact LeA.refl _ | exact LeA.nils _ | refine LeA.agg ?_ | refine LeA.tup ?_ | exact LeAs.nil | refine LeAs.cons ?_ ?_), rfl⟩

theorem within7_walk (a b : List Int) (ha : a.length ≤ 2 ^ 38) (hb : b.length ≤ 2 ^ 38) : ACalls Try.prog Nm.ref07_Within [ints a, ints b] [] (.bool (vwithin a b)) [] := by
  refine ACalls_of tab (dr_snd tab mixed) Nm.ref07_Within_h rfl (by kernel_rfl) (Nat.le_of_ble_eq_true rfl) rfl ?_
  have hl := join_len a b
  have e : decide (trim (join a b) = trim b) = vwithin a b := by
    rw [Bool.eq_iff_iff, vwithin_iff, decide_eq_true_eq]
    refine ⟨fun h i => ?_, fun h => trim_ext _ _ fun i => ?_⟩
    · have e1 : vat (trim (join a b)) i = vat (trim b) i := by rw [h]
      rw [vat_trim, vat_trim, vat_join] at e1; omega
    · rw [vat_join]; have := h i; omega
  have h1 := lay7_walk a b true (by omega) (by omega)
  have h2 := same7_walk (join a b) b (by omega) (by omega)
  rw [if_pos rfl] at h1
  rw [e] at h2
  refine NCall.call (h1) rfl rfl ?_
  refine NCall.call (h2) rfl rfl ?_
  exact NRet.mk [] rfl ⟨.refl _, rfl⟩

end Go.Bv
