/- Part of the lift: an abstract walk of the program's code, proved sound, and what it shows of this program. -/
import Derived.Test.YtldjfpfahgcicaaPart11
import Derived.Test.YtldjfpfahgcicaaPart8
import Derived.Test.YtldjfpfahgcicaaPart7
namespace Go.Bv
set_option linter.unusedSimpArgs false
set_option linter.unusedVariables false
set_option maxHeartbeats 4000000
set_option maxRecDepth 20000
open Go Go.Proofs
theorem indexA_none (g : Nat) (sh : Sh) (cs : List AV) (d : List Item → Item → Bool) (l : List Item) (hl : l.length ≤ 2 ^ 38) (hg : ∀ k x, ACalls Try.prog g [itemA x, .ptr 0 0 0] [.row .box .leaf [.list sh cs]] (.bool (d k x)) [.row .box .leaf [.list sh cs]])
    (hn : ∀ (j : Nat) (h : j < l.length), d (l.take j) l[j] = false) : ACalls Try.prog Nm.slices_IndexFunc_api_Item_api_Item [.own 0 0 l.length, .fn g [.ptr 1 0 0]] [.row .vrow (.agg 8) (l.map itemA), .row .box .leaf [.list sh cs]] (i64 (-1)) [.row .vrow (.agg 8) (l.map itemA), .row .box .leaf [.list sh cs]] := by
  refine ACalls_of tab (dr_snd tab mixed) Nm.slices_IndexFunc_api_Item_api_Item_h rfl (by kernel_rfl) (Nat.le_of_ble_eq_true rfl) rfl ?_
  refine NLoop.mk [] [0, 1, 6, 7, 8] (fun m vs H => ∃ i, i ≤ l.length ∧ m = l.length - i ∧ H = [.row .vrow (.agg 8) (l.map itemA), .row .box .leaf [.list sh cs]] ∧ vs = [.own 0 0 l.length, .fn g [.ptr 1 0 0], .own 0 0 l.length, i64 l.length, i64 i]) rfl ?_ ?_
  · exact Canon.mk [] rfl ⟨l.length, 0, Nat.zero_le _, rfl, rfl, rfl⟩
  · rintro m vs H ⟨i, hi, rfl, rfl, rfl⟩
    by_cases hil : i < l.length
    · have hc := hg (l.take i) l[i]
      rw [hn i hil] at hc
      try rw [if_neg (by simp), ← List.take_succ_eq_append_getElem hil] at hc
      refine ND.yes (by omega) ?_
      refine NP.mk (by (simp only [List.length_map, List.length_append, List.length_replicate, List.length_cons, List.length_nil, List.length_take, List.length_drop]; omega)) ?_
      refine NG.map0N (by omega) ?_
      refine NCall.subSame [1] (hc) ?_
      refine NW.i64 (by omega) (by omega) ?_
      exact Canon.mk [] rfl ⟨l.length - (i + 1), by omega, i + 1, by omega, rfl, rfl, rfl⟩
    · have : i = l.length := by omega
      subst this
      try rw [List.take_length]
      refine ND.no (by omega) ?_
      exact NRet.mk [] rfl ⟨.refl _, rfl⟩
theorem indexA_some (g : Nat) (sh : Sh) (cs : List AV) (d : List Item → Item → Bool) (l : List Item) (hl : l.length ≤ 2 ^ 38) (hg : ∀ k x, ACalls Try.prog g [itemA x, .ptr 0 0 0] [.row .box .leaf [.list sh cs]] (.bool (d k x)) [.row .box .leaf [.list sh cs]])
    (i0 : Nat) (h0 : i0 < l.length) (hn : ∀ (j : Nat) (h : j < l.length), j < i0 → d (l.take j) l[j] = false) (hd : d (l.take i0) l[i0] = true) : ACalls Try.prog Nm.slices_IndexFunc_api_Item_api_Item [.own 0 0 l.length, .fn g [.ptr 1 0 0]] [.row .vrow (.agg 8) (l.map itemA), .row .box .leaf [.list sh cs]] (i64 i0) [.row .vrow (.agg 8) (l.map itemA), .row .box .leaf [.list sh cs]] := by
  refine ACalls_of tab (dr_snd tab mixed) Nm.slices_IndexFunc_api_Item_api_Item_h rfl (by kernel_rfl) (Nat.le_of_ble_eq_true rfl) rfl ?_
  refine NLoop.mk [] [0, 1, 6, 7, 8] (fun m vs H => ∃ i, i ≤ i0 ∧ m = l.length - i ∧ H = [.row .vrow (.agg 8) (l.map itemA), .row .box .leaf [.list sh cs]] ∧ vs = [.own 0 0 l.length, .fn g [.ptr 1 0 0], .own 0 0 l.length, i64 l.length, i64 i]) rfl ?_ ?_
  · exact Canon.mk [] rfl ⟨l.length, 0, Nat.zero_le _, rfl, rfl, rfl⟩
  · rintro m vs H ⟨i, hi, rfl, rfl, rfl⟩
    have hil : i < l.length := by omega
    have hc := hg (l.take i) l[i]
    by_cases hii : i = i0
    · subst hii
      rw [hd] at hc
      try rw [if_pos rfl] at hc
      refine ND.yes (by omega) ?_
      refine NP.mk (by (simp only [List.length_map, List.length_append, List.length_replicate, List.length_cons, List.length_nil, List.length_take, List.length_drop]; omega)) ?_
      refine NG.map0N (by omega) ?_
      refine NCall.subSame [1] (hc) ?_
      exact NRet.mk [] rfl ⟨.refl _, rfl⟩
    · rw [hn i hil (by omega)] at hc
      try rw [if_neg (by simp), ← List.take_succ_eq_append_getElem hil] at hc
      refine ND.yes (by omega) ?_
      refine NP.mk (by (simp only [List.length_map, List.length_append, List.length_replicate, List.length_cons, List.length_nil, List.length_take, List.length_drop]; omega)) ?_
      refine NG.map0N (by omega) ?_
      refine NCall.subSame [1] (hc) ?_
      refine NW.i64 (by omega) (by omega) ?_
      exact Canon.mk [] rfl ⟨l.length - (i + 1), by omega, i + 1, by omega, rfl, rfl, rfl⟩
theorem deleteA_walk (g : Nat) (sh : Sh) (cs : List AV) (d : List Item → Item → Bool) (l : List Item) (hl : l.length ≤ 2 ^ 38) (hg : ∀ k x, ACalls Try.prog g [itemA x, .ptr 0 0 0] [.row .box .leaf [.list sh cs]] (.bool (d k x)) [.row .box .leaf [.list sh cs]]) :
    ACalls Try.prog Nm.slices_DeleteFunc_api_Item_api_Item [.own 0 0 l.length, .fn g [.ptr 1 0 0]] [.row .vrow (.agg 8) (l.map itemA), .row .box .leaf [.list sh cs]] (.own 0 0 (keepD d l).length)
      [.row .vrow (.agg 8) ((keepD d l).map itemA ++ List.replicate (l.length - (keepD d l).length) zI), .row .box .leaf [.list sh cs]] := by
  refine ACalls_of tab (dr_snd tab mixed) Nm.slices_DeleteFunc_api_Item_api_Item_h rfl (by kernel_rfl) (Nat.le_of_ble_eq_true rfl) rfl ?_
  by_cases hex : ∃ i, ∃ h : i < l.length, d (l.take i) l[i] = true
  · obtain ⟨i0, ⟨h0, hd⟩, hmin⟩ := least_ex hex
    have hn : ∀ (j : Nat) (h : j < l.length), j < i0 → d (l.take j) l[j] = false := fun j h hj => by simpa using fun k => hmin j hj ⟨h, k⟩
    have hk0 := keepD_none d (l := l) (i := i0) (by omega) hn
    have hk1 : keepD d (l.take (i0 + 1)) = l.take i0 := by rw [keepD_take d h0, hk0, hd, if_pos rfl]
    have hlt : ∀ {j : Nat}, i0 < j → j ≤ l.length → (keepD d (l.take j)).length < j := fun {j} => keepD_lt d h0 (by rw [hk0, hd])
    have k1 := indexA_some g sh cs d l hl hg i0 h0 hn hd
    refine NCall.atA (k1) ?_
    refine ND.no (by omega) ?_
    refine NW.i64 (by omega) (by omega) ?_
    refine NLoop.mk [] [0, 1, 5, 6] (fun m vs H => ∃ j, i0 < j ∧ j ≤ l.length ∧ m = l.length - j ∧ H = [.row .vrow (.agg 8) ((keepD d (l.take j) ++ l.drop (keepD d (l.take j)).length).map itemA), .row .box .leaf [.list sh cs]] ∧
      vs = [.own 0 0 l.length, .fn g [.ptr 1 0 0], i64 (keepD d (l.take j)).length, i64 j]) rfl ?_ ?_
    · refine Canon.mk [] rfl ⟨_, i0 + 1, by omega, by omega, rfl, ?_, ?_⟩
      · rw [hk1, List.length_take, Nat.min_eq_left (by omega), List.take_append_drop]
      · rw [hk1, List.length_take, Nat.min_eq_left (by omega)]; rfl
    rintro m vs H ⟨j, hij, hj, rfl, rfl, rfl⟩
    by_cases hjl : j < l.length
    · have hlt := hlt hij hj
      have hkt := keepD_take d hjl
      obtain ⟨K, hK⟩ : ∃ K, K = keepD d (l.take j) := ⟨_, rfl⟩
      rw [← hK] at hlt hkt ⊢
      have hc := hg K l[j]
      obtain ⟨R, hR⟩ : ∃ R, R = K ++ l.drop K.length := ⟨_, rfl⟩
      have hrl : R.length = l.length := by rw [hR, List.length_append, List.length_drop]; omega
      have hjR : j < R.length := by omega
      have hget : R[j] = l[j] := by
        simp only [hR]
        rw [List.getElem_append_right (by omega), List.getElem_drop]
        congr 1; omega
      have hKR : K.length < R.length := by omega
      rw [← hR]
      cases hp : d K l[j] with
      | true =>
        rw [hp] at hc hkt
        rw [if_pos rfl] at hkt
        try rw [if_pos rfl] at hc
        rw [← hget] at hc
        refine ND.yes (by omega) ?_
        refine NP.mk (by (simp only [List.length_map, List.length_append, List.length_replicate, List.length_cons, List.length_nil, List.length_take, List.length_drop]; omega)) ?_
        refine NG.map0N (by omega) ?_
        refine NCall.subSame [1] (hc) ?_
        refine NW.i64 (by omega) (by omega) ?_
        refine Canon.mk [] rfl ⟨l.length - (j + 1), by omega, j + 1, by omega, by omega, rfl, ?_, ?_⟩
        · rw [hkt, ← hR]
        · rw [hkt]; rfl
      | false =>
        rw [hp] at hc hkt
        rw [if_neg (by simp)] at hkt
        try rw [if_neg (by simp)] at hc
        rw [← hget] at hc
        refine ND.yes (by omega) ?_
        refine NP.mk (by (simp only [List.length_map, List.length_append, List.length_replicate, List.length_cons, List.length_nil, List.length_take, List.length_drop]; omega)) ?_
        refine NG.map0N (by omega) ?_
        refine NCall.subSame [1] (hc) ?_
        refine NP.mk (by (simp only [List.length_map, List.length_append, List.length_replicate, List.length_cons, List.length_nil, List.length_take, List.length_drop]; omega)) ?_
        refine NG.map0N (by omega) ?_
        refine NW.i64 (by omega) (by omega) ?_
        refine NW.i64 (by omega) (by omega) ?_
        refine Canon.mk [] rfl ⟨l.length - (j + 1), by omega, j + 1, by omega, by omega, rfl, ?_, ?_⟩
        · rw [hkt]
          have : (R.map itemA).set (0 + K.length) (itemA R[j]) = ((K ++ [l[j]]) ++ l.drop (K ++ [l[j]]).length).map itemA := by
            rw [hget, Nat.zero_add, ← List.map_set, hR, List.set_append, if_neg (by omega), Nat.sub_self, List.drop_eq_getElem_cons (by omega), List.set_cons_zero, List.append_assoc, List.length_append]
            rfl
          rw [← this]
          try rw [← hget]
          rfl
        · rw [hkt, List.length_append]; rfl
    · have : j = l.length := by omega
      subst this
      have hlt := hlt hij hj
      rw [List.take_length] at hlt ⊢
      obtain ⟨K, hK⟩ : ∃ K, K = keepD d l := ⟨_, rfl⟩
      rw [← hK] at hlt ⊢
      have hrl : (K ++ l.drop K.length).length = l.length := by rw [List.length_append, List.length_drop]; omega
      refine ND.no (by omega) ?_
      refine NSl.mid (by omega) ?_
      refine NP.mk (by (simp only [List.length_map, List.length_append, List.length_replicate, List.length_cons, List.length_nil, List.length_take, List.length_drop]; omega)) ?_
      refine NRet.mk [] rfl ⟨.refl _, ?_⟩
      rw [Int.toNat_natCast, Nat.zero_add, List.map_append, List.take_left' (by simp), List.drop_eq_nil_of_le (by rw [List.length_append, List.length_map, List.length_map, List.length_drop]; omega), List.append_nil]
      rfl
  · have hn : ∀ (j : Nat) (h : j < l.length), d (l.take j) l[j] = false := fun j h => by simpa using fun k => hex ⟨j, h, k⟩
    have hk : keepD d l = l := by
      have := keepD_none d (l := l) (i := l.length) (Nat.le_refl _) (fun j h _ => hn j h)
      rwa [List.take_length] at this
    have k1 := indexA_none g sh cs d l hl hg hn
    rw [hk]
    refine NCall.atA (k1) ?_
    refine ND.yes (by omega) ?_
    refine NRet.mk [] rfl ⟨.refl _, ?_⟩
    rw [Nat.sub_self, List.replicate_zero, List.append_nil]
def seenE (k : List Item) : List (AV × AV) := k.map fun x => (dotA x.dot, .bool true)
theorem indexB_none (g : Nat) (d : List Item → Item → Bool) (l : List Item) (hl : l.length ≤ 2 ^ 38) (hg : ∀ k x, ACalls Try.prog g [itemA x, .ptr 0 0 0] [.row .box .leaf [.map 1], .map (seenE k)] (.bool (d k x)) [.row .box .leaf [.map 1], .map (seenE (if d k x then k else k ++ [x]))])
    (hn : ∀ (j : Nat) (h : j < l.length), d (l.take j) l[j] = false) : ACalls Try.prog Nm.slices_IndexFunc_api_Item_api_Item [.own 0 0 l.length, .fn g [.ptr 1 0 0]] [.row .vrow (.agg 8) (l.map itemA), .row .box .leaf [.map 2], .map (seenE [])] (i64 (-1)) [.row .vrow (.agg 8) (l.map itemA), .row .box .leaf [.map 2], .map (seenE l)] := by
  refine ACalls_of tab (dr_snd tab mixed) Nm.slices_IndexFunc_api_Item_api_Item_h rfl (by kernel_rfl) (Nat.le_of_ble_eq_true rfl) rfl ?_
  refine NLoop.mk [] [0, 1, 6, 7, 8] (fun m vs H => ∃ i, i ≤ l.length ∧ m = l.length - i ∧ H = [.row .vrow (.agg 8) (l.map itemA), .row .box .leaf [.map 2], .map (seenE (l.take i))] ∧ vs = [.own 0 0 l.length, .fn g [.ptr 1 0 0], .own 0 0 l.length, i64 l.length, i64 i]) rfl ?_ ?_
  · exact Canon.mk [] rfl ⟨l.length, 0, Nat.zero_le _, rfl, rfl, rfl⟩
  · rintro m vs H ⟨i, hi, rfl, rfl, rfl⟩
    by_cases hil : i < l.length
    · have hc := hg (l.take i) l[i]
      rw [hn i hil] at hc
      try rw [if_neg (by simp), ← List.take_succ_eq_append_getElem hil] at hc
      refine ND.yes (by omega) ?_
      refine NP.mk (by (simp only [List.length_map, List.length_append, List.length_replicate, List.length_cons, List.length_nil, List.length_take, List.length_drop]; omega)) ?_
      refine NG.map0N (by omega) ?_
      refine NCall.subA [1, 2] (hc) ?_
      refine NW.i64 (by omega) (by omega) ?_
      exact Canon.mk [] rfl ⟨l.length - (i + 1), by omega, i + 1, by omega, rfl, rfl, rfl⟩
    · have : i = l.length := by omega
      subst this
      try rw [List.take_length]
      refine ND.no (by omega) ?_
      exact NRet.mk [] rfl ⟨.refl _, rfl⟩
theorem indexB_some (g : Nat) (d : List Item → Item → Bool) (l : List Item) (hl : l.length ≤ 2 ^ 38) (hg : ∀ k x, ACalls Try.prog g [itemA x, .ptr 0 0 0] [.row .box .leaf [.map 1], .map (seenE k)] (.bool (d k x)) [.row .box .leaf [.map 1], .map (seenE (if d k x then k else k ++ [x]))])
    (i0 : Nat) (h0 : i0 < l.length) (hn : ∀ (j : Nat) (h : j < l.length), j < i0 → d (l.take j) l[j] = false) (hd : d (l.take i0) l[i0] = true) : ACalls Try.prog Nm.slices_IndexFunc_api_Item_api_Item [.own 0 0 l.length, .fn g [.ptr 1 0 0]] [.row .vrow (.agg 8) (l.map itemA), .row .box .leaf [.map 2], .map (seenE [])] (i64 i0) [.row .vrow (.agg 8) (l.map itemA), .row .box .leaf [.map 2], .map (seenE (l.take i0))] := by
  refine ACalls_of tab (dr_snd tab mixed) Nm.slices_IndexFunc_api_Item_api_Item_h rfl (by kernel_rfl) (Nat.le_of_ble_eq_true rfl) rfl ?_
  refine NLoop.mk [] [0, 1, 6, 7, 8] (fun m vs H => ∃ i, i ≤ i0 ∧ m = l.length - i ∧ H = [.row .vrow (.agg 8) (l.map itemA), .row .box .leaf [.map 2], .map (seenE (l.take i))] ∧ vs = [.own 0 0 l.length, .fn g [.ptr 1 0 0], .own 0 0 l.length, i64 l.length, i64 i]) rfl ?_ ?_
  · exact Canon.mk [] rfl ⟨l.length, 0, Nat.zero_le _, rfl, rfl, rfl⟩
  · rintro m vs H ⟨i, hi, rfl, rfl, rfl⟩
    have hil : i < l.length := by omega
    have hc := hg (l.take i) l[i]
    by_cases hii : i = i0
    · subst hii
      rw [hd] at hc
      try rw [if_pos rfl] at hc
      refine ND.yes (by omega) ?_
      refine NP.mk (by (simp only [List.length_map, List.length_append, List.length_replicate, List.length_cons, List.length_nil, List.length_take, List.length_drop]; omega)) ?_
      refine NG.map0N (by omega) ?_
      refine NCall.subSame [1, 2] (hc) ?_
      exact NRet.mk [] rfl ⟨.refl _, rfl⟩
    · rw [hn i hil (by omega)] at hc
      try rw [if_neg (by simp), ← List.take_succ_eq_append_getElem hil] at hc
      refine ND.yes (by omega) ?_
      refine NP.mk (by (simp only [List.length_map, List.length_append, List.length_replicate, List.length_cons, List.length_nil, List.length_take, List.length_drop]; omega)) ?_
      refine NG.map0N (by omega) ?_
      refine NCall.subA [1, 2] (hc) ?_
      refine NW.i64 (by omega) (by omega) ?_
      exact Canon.mk [] rfl ⟨l.length - (i + 1), by omega, i + 1, by omega, rfl, rfl, rfl⟩
theorem deleteB_walk (g : Nat) (d : List Item → Item → Bool) (l : List Item) (hl : l.length ≤ 2 ^ 38) (hg : ∀ k x, ACalls Try.prog g [itemA x, .ptr 0 0 0] [.row .box .leaf [.map 1], .map (seenE k)] (.bool (d k x)) [.row .box .leaf [.map 1], .map (seenE (if d k x then k else k ++ [x]))]) :
    ACalls Try.prog Nm.slices_DeleteFunc_api_Item_api_Item [.own 0 0 l.length, .fn g [.ptr 1 0 0]] [.row .vrow (.agg 8) (l.map itemA), .row .box .leaf [.map 2], .map (seenE [])] (.own 0 0 (keepD d l).length)
      [.row .vrow (.agg 8) ((keepD d l).map itemA ++ List.replicate (l.length - (keepD d l).length) zI), .row .box .leaf [.map 2], .map (seenE (keepD d l))] := by
  refine ACalls_of tab (dr_snd tab mixed) Nm.slices_DeleteFunc_api_Item_api_Item_h rfl (by kernel_rfl) (Nat.le_of_ble_eq_true rfl) rfl ?_
  by_cases hex : ∃ i, ∃ h : i < l.length, d (l.take i) l[i] = true
  · obtain ⟨i0, ⟨h0, hd⟩, hmin⟩ := least_ex hex
    have hn : ∀ (j : Nat) (h : j < l.length), j < i0 → d (l.take j) l[j] = false := fun j h hj => by simpa using fun k => hmin j hj ⟨h, k⟩
    have hk0 := keepD_none d (l := l) (i := i0) (by omega) hn
    have hk1 : keepD d (l.take (i0 + 1)) = l.take i0 := by rw [keepD_take d h0, hk0, hd, if_pos rfl]
    have hlt : ∀ {j : Nat}, i0 < j → j ≤ l.length → (keepD d (l.take j)).length < j := fun {j} => keepD_lt d h0 (by rw [hk0, hd])
    have k1 := indexB_some g d l hl hg i0 h0 hn hd
    refine NCall.atA (k1) ?_
    refine ND.no (by omega) ?_
    refine NW.i64 (by omega) (by omega) ?_
    refine NLoop.mk [] [0, 1, 5, 6] (fun m vs H => ∃ j, i0 < j ∧ j ≤ l.length ∧ m = l.length - j ∧ H = [.row .vrow (.agg 8) ((keepD d (l.take j) ++ l.drop (keepD d (l.take j)).length).map itemA), .row .box .leaf [.map 2], .map (seenE (keepD d (l.take j)))] ∧
      vs = [.own 0 0 l.length, .fn g [.ptr 1 0 0], i64 (keepD d (l.take j)).length, i64 j]) rfl ?_ ?_
    · refine Canon.mk [] rfl ⟨_, i0 + 1, by omega, by omega, rfl, ?_, ?_⟩
      · rw [hk1, List.length_take, Nat.min_eq_left (by omega), List.take_append_drop]
      · rw [hk1, List.length_take, Nat.min_eq_left (by omega)]; rfl
    rintro m vs H ⟨j, hij, hj, rfl, rfl, rfl⟩
    by_cases hjl : j < l.length
    · have hlt := hlt hij hj
      have hkt := keepD_take d hjl
      obtain ⟨K, hK⟩ : ∃ K, K = keepD d (l.take j) := ⟨_, rfl⟩
      rw [← hK] at hlt hkt ⊢
      have hc := hg K l[j]
      obtain ⟨R, hR⟩ : ∃ R, R = K ++ l.drop K.length := ⟨_, rfl⟩
      have hrl : R.length = l.length := by rw [hR, List.length_append, List.length_drop]; omega
      have hjR : j < R.length := by omega
      have hget : R[j] = l[j] := by
        simp only [hR]
        rw [List.getElem_append_right (by omega), List.getElem_drop]
        congr 1; omega
      have hKR : K.length < R.length := by omega
      rw [← hR]
      cases hp : d K l[j] with
      | true =>
        rw [hp] at hc hkt
        rw [if_pos rfl] at hkt
        try rw [if_pos rfl] at hc
        rw [← hget] at hc
        refine ND.yes (by omega) ?_
        refine NP.mk (by (simp only [List.length_map, List.length_append, List.length_replicate, List.length_cons, List.length_nil, List.length_take, List.length_drop]; omega)) ?_
        refine NG.map0N (by omega) ?_
        refine NCall.subSame [1, 2] (hc) ?_
        refine NW.i64 (by omega) (by omega) ?_
        refine Canon.mk [] rfl ⟨l.length - (j + 1), by omega, j + 1, by omega, by omega, rfl, ?_, ?_⟩
        · rw [hkt, ← hR]
        · rw [hkt]; rfl
      | false =>
        rw [hp] at hc hkt
        rw [if_neg (by simp)] at hkt
        try rw [if_neg (by simp)] at hc
        rw [← hget] at hc
        refine ND.yes (by omega) ?_
        refine NP.mk (by (simp only [List.length_map, List.length_append, List.length_replicate, List.length_cons, List.length_nil, List.length_take, List.length_drop]; omega)) ?_
        refine NG.map0N (by omega) ?_
        refine NCall.subA [1, 2] (hc) ?_
        refine NP.mk (by (simp only [List.length_map, List.length_append, List.length_replicate, List.length_cons, List.length_nil, List.length_take, List.length_drop]; omega)) ?_
        refine NG.map0N (by omega) ?_
        refine NW.i64 (by omega) (by omega) ?_
        refine NW.i64 (by omega) (by omega) ?_
        refine Canon.mk [] rfl ⟨l.length - (j + 1), by omega, j + 1, by omega, by omega, rfl, ?_, ?_⟩
        · rw [hkt]
          have : (R.map itemA).set (0 + K.length) (itemA R[j]) = ((K ++ [l[j]]) ++ l.drop (K ++ [l[j]]).length).map itemA := by
            rw [hget, Nat.zero_add, ← List.map_set, hR, List.set_append, if_neg (by omega), Nat.sub_self, List.drop_eq_getElem_cons (by omega), List.set_cons_zero, List.append_assoc, List.length_append]
            rfl
          rw [← this]
          try rw [← hget]
          rfl
        · rw [hkt, List.length_append]; rfl
    · have : j = l.length := by omega
      subst this
      have hlt := hlt hij hj
      rw [List.take_length] at hlt ⊢
      obtain ⟨K, hK⟩ : ∃ K, K = keepD d l := ⟨_, rfl⟩
      rw [← hK] at hlt ⊢
      have hrl : (K ++ l.drop K.length).length = l.length := by rw [List.length_append, List.length_drop]; omega
      refine ND.no (by omega) ?_
      refine NSl.mid (by omega) ?_
      refine NP.mk (by (simp only [List.length_map, List.length_append, List.length_replicate, List.length_cons, List.length_nil, List.length_take, List.length_drop]; omega)) ?_
      refine NRet.mk [] rfl ⟨.refl _, ?_⟩
      rw [Int.toNat_natCast, Nat.zero_add, List.map_append, List.take_left' (by simp), List.drop_eq_nil_of_le (by rw [List.length_append, List.length_map, List.length_map, List.length_drop]; omega), List.append_nil]
      rfl
  · have hn : ∀ (j : Nat) (h : j < l.length), d (l.take j) l[j] = false := fun j h => by simpa using fun k => hex ⟨j, h, k⟩
    have hk : keepD d l = l := by
      have := keepD_none d (l := l) (i := l.length) (Nat.le_refl _) (fun j h _ => hn j h)
      rwa [List.take_length] at this
    have k1 := indexB_none g d l hl hg hn
    rw [hk]
    refine NCall.atA (k1) ?_
    refine ND.yes (by omega) ?_
    refine NRet.mk [] rfl ⟨.refl _, ?_⟩
    rw [Nat.sub_self, List.replicate_zero, List.append_nil]
end Go.Bv
namespace Go.Bv
set_option linter.unusedSimpArgs false
set_option linter.unusedVariables false
set_option maxHeartbeats 4000000
set_option maxRecDepth 20000
open Go Go.Proofs
theorem keyEq_dot (a b : Dot) : keyEq [0, 0, 0] (dotA a) (dotA b) = some (decide (a = b)) := by
  rw [dot_dec]
  simp only [keyEq, dotA, dotC, allEqA, leafEqA, i64, kindBeq, Bool.and_true]
theorem seenE_get (k : List Item) (i : Nat) : (seenE k)[i]? = (k[i]?).map fun x => (dotA x.dot, AV.bool true) := by unfold seenE; rw [List.getElem?_map]
/-- Where a dot stands in the map of those seen. -/
theorem NFind.seen {k : List Item} {d : Dot} {T : Nat → AV → Prop} {E : Prop} (h1 : d ∈ k.map Item.dot → ∀ i, (seenE k)[i]? = some (dotA d, .bool true) → T i (.bool true)) (h2 : d ∉ k.map Item.dot → E) : NFind [0, 0, 0] (seenE k) (dotA d) T E := by
  by_cases h : d ∈ k.map Item.dot
  · have hex : ∃ i : Nat, ∃ x : Item, k[i]? = some x ∧ x.dot = d := by
      obtain ⟨x, hx, rfl⟩ := List.mem_map.1 h
      obtain ⟨i, hi⟩ := List.getElem?_of_mem hx
      exact ⟨i, x, hi, rfl⟩
    obtain ⟨i, ⟨x, hx, rfl⟩, hmin⟩ := least_ex hex
    have hi : (seenE k)[i]? = some (dotA x.dot, .bool true) := by rw [seenE_get, hx]; rfl
    refine .hit i (dotA x.dot) (.bool true) hi (by rw [keyEq_dot]; simp) (fun j hj k' v' hjj => ?_) (h1 h i hi)
    rw [seenE_get] at hjj
    cases hkj : k[j]? with
    | none => rw [hkj] at hjj; simp at hjj
    | some y =>
      rw [hkj] at hjj
      simp only [Option.map_some, Option.some.injEq, Prod.mk.injEq] at hjj
      rw [← hjj.1, keyEq_dot, decide_eq_false]
      exact fun e => hmin j hj ⟨y, hkj, e.symm⟩
  · refine .miss (fun j k' v' hjj => ?_) (h2 h)
    rw [seenE_get] at hjj
    cases hkj : k[j]? with
    | none => rw [hkj] at hjj; simp at hjj
    | some y =>
      rw [hkj] at hjj
      simp only [Option.map_some, Option.some.injEq, Prod.mk.injEq] at hjj
      rw [← hjj.1, keyEq_dot, decide_eq_false]
      exact fun e => h (List.mem_map.2 ⟨y, List.mem_of_getElem? hkj, e.symm⟩)
theorem set_same {α : Type} {l : List α} {i : Nat} {x : α} (h : l[i]? = some x) : l.set i x = l := by
  obtain ⟨hi, rfl⟩ := List.getElem?_eq_some_iff.1 h
  exact List.set_getElem_self hi
theorem normF_walk (k : List Item) (x : Item) : ACalls Try.prog Nm.item_Norm_1 [itemA x, .ptr 0 0 0] [.row .box .leaf [.map 1], .map (seenE k)] (.bool (hadI k x)) [.row .box .leaf [.map 1], .map (seenE (if hadI k x then k else k ++ [x]))] := by
  refine ACalls_of tab (dr_snd tab mixed) Nm.item_Norm_1_h rfl (by kernel_rfl) (Nat.le_of_ble_eq_true rfl) rfl ?_
  cases hp : hadI k x with
  | true =>
    have hm : x.dot ∈ k.map Item.dot := of_decide_eq_true hp
    skip
    refine NFind.seen (d := x.dot) (fun _ i hi => ?_) (fun h => absurd hm h)
    skip
    refine NFind.seen (d := x.dot) (fun _ i hi => ?_) (fun h => absurd hm h)
    have e1 : (seenE k).set i (dotA x.dot, .bool true) = seenE k := set_same hi
    skip
    exact NRet.mk [] rfl ⟨.refl _, by rw [if_pos rfl]; exact congrArg (fun m => [Blk.row .box .leaf [.map 1], .map m]) e1.symm⟩
  | false =>
    have hm : x.dot ∉ k.map Item.dot := of_decide_eq_false hp
    skip
    refine NFind.seen (d := x.dot) (fun h => absurd h hm) (fun _ => ?_)
    skip
    refine NFind.seen (d := x.dot) (fun h => absurd h hm) (fun _ => ?_)
    skip
    refine NRet.mk [] rfl ⟨.refl _, ?_⟩
    rw [if_neg (by simp)]
    unfold seenE
    rw [List.map_append]
    rfl
theorem without_own (l : List Item) (D : List Dot) (hl : l.length ≤ 2 ^ 38) (hD : D.length ≤ 2 ^ 40) : ACalls Try.prog Nm.item_Without [itemsA l, dotsA D] [] (.own 0 0 (without l D).length) [.row .vrow (.agg 8) ((without l D).map itemA ++ List.replicate (l.length - (without l D).length) zI)] := by
  refine ACalls_of tab (dr_snd tab mixed) Nm.item_Without_h rfl (by kernel_rfl) (Nat.le_of_ble_eq_true rfl) rfl ?_
  have k1 := cloneI_walk l hl
  have k2 := deleteA_walk Nm.item_Without_1 (.agg 3) (D.map dotA) (fun _ x => decide (x.dot ∈ D)) l hl (fun _ x => withoutF_walk D x hD)
  have e : keepD (fun _ x => decide (x.dot ∈ D)) l = without l D := by
    rw [keepD_filter]
    unfold without
    congr 1; funext x
    by_cases h : x.dot ∈ D <;> simp [h]
  rw [e] at k2
  refine NCall.atA (ACalls.frame (k1) rfl _) ?_
  refine NCall.subA [1, 0] (k2) ?_
  exact NRet.mk [1] rfl ⟨.refl _, rfl⟩
end Go.Bv
namespace Go.Bv
set_option linter.unusedSimpArgs false
set_option linter.unusedVariables false
set_option maxHeartbeats 4000000
set_option maxRecDepth 20000
open Go Go.Proofs
theorem sortFunc_walk (l : List Item) (hl : l.length ≤ 60000) : ACalls Try.prog Nm.slices_SortFunc_api_Item_api_Item [.own 0 0 l.length, .fn Nm.item_compare []] [.row .vrow (.agg 8) (l.map itemA)] (.tup []) [.row .vrow (.agg 8) ((isort l).map itemA)] := by
  refine ACalls_of tab (dr_snd tab mixed) Nm.slices_SortFunc_api_Item_api_Item_h rfl (by kernel_rfl) (Nat.le_of_ble_eq_true rfl) rfl ?_
  have h1 := len_walk l.length (by omega)
  have hb := (Go.Sort.bitsLen_le_iff l.length 16).2 (by omega)
  have h2 := pdq_walk l.length l 0 l.length (Go.Sort.bitsLen l.length) (by omega) (by omega) (Nat.le_refl _) hl (by omega) (Or.inl rfl)
  rw [pdq_isort] at h2
  have e : IntKind.wrap .u64 (l.length : Int) = (l.length : Int) := by rw [wrap_u64]; omega
  refine NW.mk _ rfl ?_
  rw [(e)]
  refine NCall.call (h1) rfl rfl ?_
  refine NCall.atA (h2) ?_
  exact NRet.mk [] rfl ⟨.refl _, rfl⟩
theorem isort_len (l : List Item) : (isort l).length = l.length := (isort_perm l).length_eq
theorem norm_len (l : List Item) : (norm l).length ≤ l.length := by
  unfold norm
  rw [← isort_len l]
  exact (nubF_sub _ _).length_le
theorem norm_own (l : List Item) (hl : l.length ≤ 60000) : ACalls Try.prog Nm.item_Norm [itemsA l] [] (.own 0 0 (norm l).length) [.row .vrow (.agg 8) ((norm l).map itemA ++ List.replicate (l.length - (norm l).length) zI)] := by
  refine ACalls_of tab (dr_snd tab mixed) Nm.item_Norm_h rfl (by kernel_rfl) (Nat.le_of_ble_eq_true rfl) rfl ?_
  have k1 := cloneI_walk l (by omega)
  have k2 := sortFunc_walk l hl
  have k3 := deleteB_walk Nm.item_Norm_1 hadI (isort l) (by rw [isort_len]; omega) (fun k x => normF_walk k x)
  rw [keepD_nub, isort_len] at k3
  rw [show nubF [] (isort l) = norm l from rfl] at k3
  refine NCall.atA (ACalls.frame (k1) rfl _) ?_
  refine NCall.atA (k2) ?_
  refine NCall.subA [0, 2, 1] (k3) ?_
  exact NRet.mk [0] rfl ⟨.refl _, rfl⟩
/-- A row that holds a list and more, as the list. -/
theorem norm_list (l : List Item) (hl : l.length ≤ 60000) : ACalls Try.prog Nm.item_Norm [itemsA l] [] (itemsA (norm l)) [] :=
  (norm_own l hl).drop (.val (.own trivial rfl (by simp) (by simp) (by rw [List.drop_zero, List.take_left' (by simp)])) rfl (fun _ => by simp [itemsA]) (fun _ => by simp [itemsA]))
theorem without_len (l : List Item) (D : List Dot) : (without l D).length ≤ l.length := List.length_filter_le _ _
theorem doE_len (n s : Int) (l : List Item) (e : Eff) : (doE n s l e).length ≤ l.length + 1 := by
  have h1 := norm_len (rawE n s l e)
  have h2 := without_len l e.drops
  unfold doE
  refine Nat.le_trans h1 ?_
  unfold rawE madeL
  rw [List.length_append]
  split <;> simp only [List.length_nil, List.length_cons] <;> omega
theorem do_walk (l : List Item) (n s : Int) (es : List Eff) (hl : l.length ≤ 50000) (he : es.length ≤ 5000) (hx : ∀ e ∈ es, smEff e) : ACalls Try.prog Nm.eff_Do [itemsA l, i64 n, i64 s, effsA es] [] (itemsA (doL n s l es)) [] := by
  refine ACalls_of tab (dr_snd tab mixed) Nm.eff_Do_h rfl (by kernel_rfl) (Nat.le_of_ble_eq_true rfl) rfl ?_
  have k1 := cloneI_walk l (by omega)
  refine NCall.atA (ACalls.frame (k1) rfl _) ?_
  refine NLoop.mk [] [1, 2, 9, 14, 15, 16] (fun m vs H => ∃ (i : Nat) (junk : List AV), i ≤ es.length ∧ m = es.length - i ∧ (doL n s l (es.take i)).length ≤ l.length + i ∧ H = [.row .vrow (.agg 8) ((doL n s l (es.take i)).map itemA ++ junk)] ∧
    vs = [i64 n, i64 s, .own 0 0 (doL n s l (es.take i)).length, effsA es, i64 es.length, i64 i]) rfl ?_ ?_
  · exact Canon.mk [0] rfl ⟨es.length, 0, [], Nat.zero_le _, rfl, Nat.le_refl _, by rw [List.append_nil]; rfl, by rw [List.length_map]; rfl⟩
  rintro m vs H ⟨i, junk, hi, rfl, hlen, rfl, rfl⟩
  by_cases hil : i < es.length
  · have hs := hx _ (List.getElem_mem hil)
    have hstep : doL n s l (es.take (i + 1)) = doE n s (doL n s l (es.take i)) es[i] := by
      unfold doL
      rw [List.take_succ_eq_append_getElem hil, List.foldl_append]; rfl
    have hlen2 := doE_len n s (doL n s l (es.take i)) es[i]
    rw [← hstep] at hlen2
    have hw := without_len (doL n s l (es.take i)) es[i].drops
    have k2 := without_own (doL n s l (es.take i)) es[i].drops (by omega) hs.2.2.2
    have k3 := made_walk n s es[i]
    have k4 := norm_own (rawE n s (doL n s l (es.take i)) es[i]) (by
      unfold rawE madeL
      rw [List.length_append]
      split <;> simp only [List.length_nil, List.length_cons] <;> omega)
    rw [show norm (rawE n s (doL n s l (es.take i)) es[i]) = doL n s l (es.take (i + 1)) from hstep.symm] at k4
    have htk : ∀ (w : List Item) (X : List AV), List.take w.length (w.map itemA ++ X) = w.map itemA := fun w X => List.take_left' (by simp)
    obtain ⟨cur, hcur⟩ : ∃ c, c = doL n s l (es.take i) := ⟨_, rfl⟩
    rw [← hcur] at k2 k4 hw hlen ⊢
    unfold rawE madeL at k4
    obtain ⟨nxt, hnxt⟩ : ∃ c, c = doL n s l (es.take (i + 1)) := ⟨_, rfl⟩
    rw [← hnxt] at k4 hlen2
    rw [← hcur] at hlen2
    generalize without cur es[i].drops = w at *
    by_cases hk : es[i].kind = 0
    · rw [if_pos hk, List.append_nil] at k4
      refine ND.yes (by omega) ?_
      refine NP.mk (by omega) ?_
      refine NG.mapN (by omega) ?_
      refine NCall.roA [0] ?_
      rw [(htk cur junk)]
      refine NCall.atA (ACalls.frame (k2) rfl _) ?_
      refine ND.yes (by omega) ?_
      refine NCall.roA [2] ?_
      rw [(htk w _)]
      refine NCall.atA (ACalls.frame (k4) rfl _) ?_
      refine NW.i64 (by omega) (by omega) ?_
      exact Canon.mk [3] rfl ⟨es.length - (i + 1), by omega, i + 1, List.replicate (w.length - nxt.length) zI, by omega, rfl, by rw [← hnxt]; omega, by subst hnxt; rfl, by subst hnxt; rfl⟩
    · rw [if_neg hk] at k4
      obtain ⟨x, hxe⟩ : ∃ x, x = made n s es[i] := ⟨_, rfl⟩
      rw [← hxe] at k4 k3
      rw [show itemsA (w ++ [x]) = .list (.agg 8) (w.map itemA ++ [itemA x]) by simp [itemsA]] at k4
      by_cases hwe : cur.length - w.length = 0
      · rw [hwe, List.replicate_zero, List.append_nil] at k2
        refine ND.yes (by omega) ?_
        refine NP.mk (by omega) ?_
        refine NG.mapN (by omega) ?_
        refine NCall.roA [0] ?_
        rw [(htk cur junk)]
        refine NCall.atA (ACalls.frame (k2) rfl _) ?_
        refine ND.no (by omega) ?_
        refine NCall.call (k3) rfl rfl ?_
        refine NFz.own ?_
        refine NApp.endA (by simp) (by simp; omega) ?_
        refine NCall.roA [3] ?_
        rw [(tl0 _)]
        refine NCall.atA (ACalls.frame (k4) rfl _) ?_
        refine NW.i64 (by omega) (by omega) ?_
        exact Canon.mk [4] rfl ⟨es.length - (i + 1), by omega, i + 1, List.replicate ((w ++ [x]).length - nxt.length) zI, by omega, rfl, by rw [← hnxt]; omega, by subst hnxt; rfl, by subst hnxt; rfl⟩
      · obtain ⟨c, hc⟩ : ∃ c, cur.length - w.length = c + 1 := ⟨cur.length - w.length - 1, by omega⟩
        rw [hc] at k2
        have htk2 : List.take (w.length + 1) (w.map itemA ++ itemA x :: List.replicate c zI) = w.map itemA ++ [itemA x] := by
          rw [show w.map itemA ++ itemA x :: List.replicate c zI = (w.map itemA ++ [itemA x]) ++ List.replicate c zI by simp]
          exact List.take_left' (by simp)
        refine ND.yes (by omega) ?_
        refine NP.mk (by omega) ?_
        refine NG.mapN (by omega) ?_
        refine NCall.roA [0] ?_
        rw [(htk cur junk)]
        refine NCall.atA (ACalls.frame (k2) rfl _) ?_
        refine ND.no (by omega) ?_
        refine NCall.call (k3) rfl rfl ?_
        refine NFz.own ?_
        refine NApp.inA (es' := w.map itemA ++ itemA x :: List.replicate c zI) (by simp) ?_ rfl ?_ rfl
        rotate_left
        · have hd : List.drop (0 + w.length + 1) (w.map itemA ++ List.replicate (c + 1) zI) = List.replicate c zI := by
            rw [List.drop_append, List.drop_eq_nil_of_le (by simp), List.nil_append, List.length_map, show 0 + w.length + 1 - w.length = 1 by omega]; rfl
          show List.take (0 + w.length) (w.map itemA ++ List.replicate (c + 1) zI) ++ ([itemA x] ++ List.drop (0 + w.length + 1) (w.map itemA ++ List.replicate (c + 1) zI)) = _
          rw [hd, Nat.zero_add, List.take_left' (by simp)]; rfl
        refine NCall.roA [2] ?_
        rw [(htk2)]
        refine NCall.atA (ACalls.frame (k4) rfl _) ?_
        refine NW.i64 (by omega) (by omega) ?_
        exact Canon.mk [3] rfl ⟨es.length - (i + 1), by omega, i + 1, List.replicate ((w ++ [x]).length - nxt.length) zI, by omega, rfl, by rw [← hnxt]; omega, by subst hnxt; rfl, by subst hnxt; rfl⟩
  · have : i = es.length := by omega
    subst this
    rw [List.take_length]
    refine ND.no (by omega) ?_
    exact NRet.mk [] rfl (NFrz.mk ((doL n s l es).map itemA) (by simp) (by rw [List.drop_zero, List.take_left' (by simp)]) ⟨.refl _, rfl⟩)
end Go.Bv
namespace Go.Bv
set_option linter.unusedSimpArgs false
set_option linter.unusedVariables false
set_option maxHeartbeats 4000000
open Go Go.Proofs
theorem equalV_walk (a b : List Int) (ha : a.length ≤ 2 ^ 40) : ACalls Try.prog Nm.slices_Equal_api_Vec_int [ints a, ints b] [] (.bool (decide (a = b))) [] := by
  refine ACalls_of tab (dr_snd tab mixed) Nm.slices_Equal_api_Vec_int_h rfl (by kernel_rfl) (Nat.le_of_ble_eq_true rfl) rfl ?_
  by_cases hl : a.length = b.length
  · refine ND.yes (by (simp only [List.length_map, List.length_append, List.length_replicate, List.length_cons, List.length_nil, List.length_take, List.length_drop]; omega)) ?_
    refine NLoop.mk [] [0, 1, 11, 12, 13] (fun m vs H => ∃ i, i ≤ a.length ∧ m = a.length - i ∧ a.take i = b.take i ∧ H = [] ∧ vs = [ints a, ints b, ints a, i64 a.length, i64 i]) rfl ?_ ?_
    · exact Canon.mk [] rfl ⟨a.length, 0, Nat.zero_le _, rfl, rfl, rfl, by simp [ints, i64]⟩
    · rintro m vs H ⟨i, hi, rfl, ht, rfl, rfl⟩
      by_cases hil : i < a.length
      · have hib : i < b.length := by omega
        by_cases he : a[i] = b[i]
        · refine ND.yes (by omega) ?_
          refine NP.mk (by kernel_rfl) ?_
          apply NDr.pure
          · exact ⟨rfl, rfl⟩
          apply NDr.pure
          · exact ⟨rfl, rfl⟩
          apply NDr.pure
          · refine NP.mk (by omega) ?_
            refine NG.mapN (by omega) ?_
            exact ⟨rfl, rfl⟩
          apply NDr.pure
          · exact ⟨rfl, rfl⟩
          apply NDr.pure
          · exact ⟨rfl, rfl⟩
          apply NDr.pure
          · exact ⟨rfl, rfl⟩
          apply NDr.pure
          · refine NP.mk (by omega) ?_
            refine NG.mapN (by omega) ?_
            exact ⟨rfl, rfl⟩
          apply NDr.pure
          · exact ⟨rfl, rfl⟩
          apply NDr.pure
          · refine ND.yes (by omega) ?_
            exact ⟨rfl, rfl⟩
          refine NP.mk (by kernel_rfl) ?_
          refine NW.i64 (by omega) (by omega) ?_
          exact Canon.mk [] rfl ⟨a.length - (i + 1), by omega, i + 1, by omega, rfl, take_eq_next ht hil hib he, rfl, rfl⟩
        · rw [decide_eq_false fun e => he (by simp only [e])]
          refine ND.yes (by omega) ?_
          refine NP.mk (by kernel_rfl) ?_
          apply NDr.pure
          · exact ⟨rfl, rfl⟩
          apply NDr.pure
          · exact ⟨rfl, rfl⟩
          apply NDr.pure
          · refine NP.mk (by omega) ?_
            refine NG.mapN (by omega) ?_
            exact ⟨rfl, rfl⟩
          apply NDr.pure
          · exact ⟨rfl, rfl⟩
          apply NDr.pure
          · exact ⟨rfl, rfl⟩
          apply NDr.pure
          · exact ⟨rfl, rfl⟩
          apply NDr.pure
          · refine NP.mk (by omega) ?_
            refine NG.mapN (by omega) ?_
            exact ⟨rfl, rfl⟩
          apply NDr.pure
          · exact ⟨rfl, rfl⟩
          apply NDr.pure
          · refine ND.no (by omega) ?_
            exact ⟨rfl, rfl⟩
          refine NP.mk (by kernel_rfl) ?_
          exact NRet.mk [] rfl ⟨.refl _, rfl⟩
      · have : i = a.length := by omega
        subst this
        rw [decide_eq_true (take_eq_end hl ht)]
        refine ND.no (by omega) ?_
        exact NRet.mk [] rfl ⟨.refl _, rfl⟩
  · rw [decide_eq_false fun e => hl (by rw [e])]
    refine ND.no (by (simp only [List.length_map, List.length_append, List.length_replicate, List.length_cons, List.length_nil, List.length_take, List.length_drop]; omega)) ?_
    exact NRet.mk [] rfl ⟨.refl _, rfl⟩
theorem formF_walk (n : Int) : ACalls Try.prog Nm.txn_Formed_1 [i64 n] [] (.bool (decide (1073741824 < n))) [] := by
  refine ACalls_of tab (dr_snd tab mixed) Nm.txn_Formed_1_h rfl (by kernel_rfl) (Nat.le_of_ble_eq_true rfl) rfl ?_
  refine NB.dec (fun hk1 => ?_) (fun hk1 => ?_)
  · refine NRet.boolE (b := true) ?_ (NRet.mk [] rfl ⟨.refl _, rfl⟩)
    (simp only [decide_eq_true_eq, decide_eq_false_iff_not, eq_comm (a := true), eq_comm (a := false)]; omega)
  refine NRet.boolE (b := false) ?_ (NRet.mk [] rfl ⟨.refl _, rfl⟩)
  (simp only [decide_eq_true_eq, decide_eq_false_iff_not, eq_comm (a := true), eq_comm (a := false)]; omega)
theorem indexV_walk (g : Nat) (l : List Int) (p : Int → Bool) (hl : l.length ≤ 2 ^ 40) (hg : ∀ d ∈ l, ACalls Try.prog g [i64 d] [] (.bool (p d)) []) :
    ACalls Try.prog Nm.slices_IndexFunc_api_Vec_int [ints l, .fn g []] [] (i64 (ixI p l)) [] := by
  refine ACalls_of tab (dr_snd tab mixed) Nm.slices_IndexFunc_api_Vec_int_h rfl (by kernel_rfl) (Nat.le_of_ble_eq_true rfl) rfl ?_
  refine NLoop.mk [] [0, 1, 6, 7, 8] (fun m vs H => ∃ i, i ≤ l.length ∧ m = l.length - i ∧ (∀ x ∈ l.take i, p x = false) ∧ H = [] ∧ vs = [ints l, .fn g [], ints l, i64 l.length, i64 i]) rfl ?_ ?_
  · exact Canon.mk [] rfl ⟨l.length, 0, Nat.zero_le _, rfl, by simp, rfl, by simp [ints, i64]⟩
  · rintro m vs H ⟨i, hi, rfl, ht, rfl, rfl⟩
    by_cases hil : i < l.length
    · have hc := hg _ (List.getElem_mem hil)
      obtain ⟨f1, f2⟩ := find_step hil ht
      cases hp : p l[i] with
      | true =>
        rw [hp] at hc
        rw [f1 hp]
        refine ND.yes (by omega) ?_
        refine NP.mk (by omega) ?_
        refine NG.mapN (by omega) ?_
        refine NCall.call (hc) rfl rfl ?_
        exact NRet.mk [] rfl ⟨.refl _, rfl⟩
      | false =>
        rw [hp] at hc
        refine ND.yes (by omega) ?_
        refine NP.mk (by omega) ?_
        refine NG.mapN (by omega) ?_
        refine NCall.call (hc) rfl rfl ?_
        refine NW.i64 (by omega) (by omega) ?_
        exact Canon.mk [] rfl ⟨l.length - (i + 1), by omega, i + 1, by omega, rfl, f2 hp, rfl, rfl⟩
    · have : i = l.length := by omega
      subst this
      rw [List.take_length] at ht
      rw [find_none ht]
      refine ND.no (by omega) ?_
      exact NRet.mk [] rfl ⟨.refl _, rfl⟩
theorem containsV_walk (g : Nat) (l : List Int) (p : Int → Bool) (hl : l.length ≤ 2 ^ 40) (hg : ∀ d ∈ l, ACalls Try.prog g [i64 d] [] (.bool (p d)) []) :
    ACalls Try.prog Nm.slices_ContainsFunc_api_Vec_int [ints l, .fn g []] [] (.bool (l.any p)) [] := by
  have hi := indexV_walk g l p hl hg
  refine ACalls_of tab (dr_snd tab mixed) Nm.slices_ContainsFunc_api_Vec_int_h rfl (by kernel_rfl) (Nat.le_of_ble_eq_true rfl) rfl ?_
  rw [ixI_any]
  by_cases h : 0 ≤ ixI p l
  · rw [decide_eq_true h]
    refine NCall.call (hi) rfl rfl ?_
    refine ND.yes (by omega) ?_
    exact NRet.mk [] rfl ⟨.refl _, rfl⟩
  · rw [decide_eq_false h]
    refine NCall.call (hi) rfl rfl ?_
    refine ND.no (by omega) ?_
    exact NRet.mk [] rfl ⟨.refl _, rfl⟩
theorem all_le (v : List Int) : (v.all fun n => decide (n ≤ 1073741824)) = !v.any fun n => decide (1073741824 < n) := by
  rw [List.not_any_eq_all_not]
  congr 1; funext n
  by_cases h : n ≤ 1073741824
  · simp [h, Int.not_lt.2 h]
  · simp [h, Int.not_le.1 h]
theorem vatI_nonneg (v : List Int) (n : Int) : 0 ≤ vatI v n := by
  unfold vatI; split
  · exact Int.le_refl _
  · exact vat_nonneg _ _
theorem vat_le {v : List Int} {m : Int} (h : ∀ x ∈ v, x ≤ m) (hm : 0 ≤ m) (i : Nat) : vat v i ≤ m := by
  rcases Nat.lt_or_ge i v.length with hi | hi
  · rw [vat_in hi]; have := h _ (List.getElem_mem hi); omega
  · rw [vat_out hi]; exact hm
theorem vatI_le {v : List Int} {m : Int} (h : ∀ x ∈ v, x ≤ m) (hm : 0 ≤ m) (n : Int) : vatI v n ≤ m := by
  unfold vatI; split
  · exact hm
  · exact vat_le h hm _
theorem formed_walk (t : Txn) (ht : smTxn t) : ACalls Try.prog Nm.txn_Formed [txnA t] [] (.bool (formed t)) [] := by
  refine ACalls_of tab (dr_snd tab mixed) Nm.txn_Formed_h rfl (by kernel_rfl) (Nat.le_of_ble_eq_true rfl) rfl ?_
  obtain ⟨hs, h1, h2, h3⟩ := ht
  have k1 := vecTrim_walk t.deps (by omega)
  have k2 := equalV_walk (trim t.deps) t.deps (Nat.le_trans (trim_len _) (by omega))
  have k3 := vecAt_walk t.deps t.node (by omega)
  have k4 := containsV_walk Nm.txn_Formed_1 t.deps (fun n => decide (1073741824 < n)) (by omega) (fun n _ => formF_walk n)
  have k5 := right_walk t.node t.seq t.effs (by omega) h3
  have k6 := effHeard_walk t.effs t.node t.seq t.deps (by omega) h3 (by omega)
  obtain ⟨hs1, hs2⟩ := hs
  refine NB.dec (fun hk1 => ?_) (fun hk1 => ?_)
  · refine NRet.boolE (b := false) ?_ (NRet.mk [] rfl ⟨.refl _, rfl⟩)
    grind [formed, vecOk, all_le]
  refine NB.dec (fun hk2 => ?_) (fun hk2 => ?_)
  · refine NRet.boolE (b := false) ?_ (NRet.mk [] rfl ⟨.refl _, rfl⟩)
    grind [formed, vecOk, all_le]
  refine NB.dec (fun hk3 => ?_) (fun hk3 => ?_)
  · refine NRet.boolE (b := false) ?_ (NRet.mk [] rfl ⟨.refl _, rfl⟩)
    grind [formed, vecOk, all_le]
  refine NB.dec (fun hk4 => ?_) (fun hk4 => ?_)
  · refine NRet.boolE (b := false) ?_ (NRet.mk [] rfl ⟨.refl _, rfl⟩)
    grind [formed, vecOk, all_le]
  refine NB.dec (fun hk5 => ?_) (fun hk5 => ?_)
  · refine NRet.boolE (b := false) ?_ (NRet.mk [] rfl ⟨.refl _, rfl⟩)
    grind [formed, vecOk, all_le]
  refine NB.dec (fun hk6 => ?_) (fun hk6 => ?_)
  · refine NRet.boolE (b := false) ?_ (NRet.mk [] rfl ⟨.refl _, rfl⟩)
    grind [formed, vecOk, all_le]
  refine NP.mk (by kernel_rfl) ?_
  apply NDr.rd [0]
  · intro fH TH
    exact ⟨rfl, rfl⟩
  apply NDr.rd [0]
  · intro fH TH
    exact ⟨rfl, rfl⟩
  apply NDr.pure
  · refine NCall.call (k1) rfl rfl ?_
    exact ⟨rfl, rfl⟩
  apply NDr.rd [0]
  · intro fH TH
    exact ⟨rfl, rfl⟩
  apply NDr.rd [0]
  · intro fH TH
    exact ⟨rfl, rfl⟩
  apply NDr.pure
  · refine NCall.call (k2) rfl rfl ?_
    exact ⟨rfl, rfl⟩
  apply NDr.pure
  · exact NB.det0'
  apply NDr.pure
  · exact ⟨rfl, rfl⟩
  refine NB.mk (fun hk7 => ?_) (fun hk7 => ?_)
  · refine NB.yes (by assumption) ?_
    refine NB.yes (by assumption) ?_
    refine NB.yes (by assumption) ?_
    refine NB.yes (by assumption) ?_
    refine NB.yes (by assumption) ?_
    refine NB.yes (by assumption) ?_
    refine NB.yes (by assumption) ?_
    refine NB.yes (by assumption) ?_
    apply NDr.pure
    · refine NB.yes (by assumption) ?_
      exact ⟨rfl, rfl⟩
    apply NDr.pure
    · exact ⟨rfl, rfl⟩
    apply NDr.pure
    · exact ⟨rfl, rfl⟩
    refine NP.mk (by kernel_rfl) ?_
    refine NRet.boolE (b := false) ?_ (NRet.mk [] rfl ⟨.refl _, rfl⟩)
    grind [formed, vecOk, all_le]
  apply NDr.rd [0]
  · intro fH TH
    exact ⟨rfl, rfl⟩
  refine NB.no (by assumption) ?_
  apply NDr.rd [0]
  · intro fH TH
    exact ⟨rfl, rfl⟩
  refine NB.no (by assumption) ?_
  apply NDr.rd [0]
  · intro fH TH
    exact ⟨rfl, rfl⟩
  refine NB.no (by assumption) ?_
  apply NDr.rd [0]
  · intro fH TH
    exact ⟨rfl, rfl⟩
  refine NB.no (by assumption) ?_
  apply NDr.pure
  · refine NCall.call (k3) rfl rfl ?_
    exact ⟨rfl, rfl⟩
  refine NB.no (by assumption) ?_
  apply NDr.rd [0]
  · intro fH TH
    exact ⟨rfl, rfl⟩
  refine NB.no (by assumption) ?_
  apply NDr.rd [0]
  · intro fH TH
    exact ⟨rfl, rfl⟩
  refine NB.no (by assumption) ?_
  apply NDr.pure
  · refine NW.i64 (by omega) (by omega) ?_
    exact ⟨rfl, rfl⟩
  refine NB.no (by assumption) ?_
  apply NDr.pure
  · exact NB.det'
  apply NDr.pure
  · refine NB.no (by assumption) ?_
    exact ⟨rfl, rfl⟩
  apply NDr.pure
  · exact ⟨rfl, rfl⟩
  refine NB.mk (fun hk27 => ?_) (fun hk27 => ?_)
  · refine NB.yes (by assumption) ?_
    refine NB.yes (by assumption) ?_
    apply NDr.pure
    · refine NB.yes (by assumption) ?_
      exact ⟨rfl, rfl⟩
    refine NP.mk (by kernel_rfl) ?_
    refine NRet.boolE (b := false) ?_ (NRet.mk [] rfl ⟨.refl _, rfl⟩)
    grind [formed, vecOk, all_le]
  apply NDr.rd [0]
  · intro fH TH
    exact ⟨rfl, rfl⟩
  refine NB.no (by assumption) ?_
  apply NDr.rd [0]
  · intro fH TH
    exact ⟨rfl, rfl⟩
  refine NB.no (by assumption) ?_
  apply NDr.pure
  · refine NCall.call (k4) rfl rfl ?_
    exact ⟨rfl, rfl⟩
  apply NDr.pure
  · refine NB.no (by assumption) ?_
    exact ⟨rfl, rfl⟩
  refine NP.mk (by kernel_rfl) ?_
  refine NB.mk (fun hk34 => ?_) (fun hk34 => ?_)
  · refine NRet.boolE (b := false) ?_ (NRet.mk [] rfl ⟨.refl _, rfl⟩)
    grind [formed, vecOk, all_le]
  refine NCall.call (k5) rfl rfl ?_
  refine NB.mk (fun hk35 => ?_) (fun hk35 => ?_)
  · refine NB.yes (by assumption) ?_
    refine NB.yes (by assumption) ?_
    refine NB.yes (by assumption) ?_
    refine NB.yes (by assumption) ?_
    refine NB.yes (by assumption) ?_
    refine NB.yes (by assumption) ?_
    refine NB.yes (by assumption) ?_
    refine NB.yes (by assumption) ?_
    refine NCall.call (k6) rfl rfl ?_
    refine NB.yes (by assumption) ?_
    refine NRet.boolE ?_ (NRet.mk [] rfl ⟨.refl _, rfl⟩)
    grind [formed, vecOk, all_le]
  refine NB.no (by assumption) ?_
  refine NB.no (by assumption) ?_
  refine NB.no (by assumption) ?_
  refine NB.no (by assumption) ?_
  refine NB.no (by assumption) ?_
  refine NB.no (by assumption) ?_
  refine NB.no (by assumption) ?_
  refine NB.no (by assumption) ?_
  refine NB.no (by assumption) ?_
  refine NRet.boolE (b := false) ?_ (NRet.mk [] rfl ⟨.refl _, rfl⟩)
  grind [formed, vecOk, all_le]
theorem formed13_walk (t : Txn) (ht : smTxn t) : ACalls Try.prog Nm.ref13_Formed [txnA t] [] (.bool (formed t)) [] := by
  refine ACalls_of tab (dr_snd tab mixed) Nm.ref13_Formed_h rfl (by kernel_rfl) (Nat.le_of_ble_eq_true rfl) rfl ?_
  obtain ⟨hs, h1, h2, h3⟩ := ht
  have k1 := trim7_walk t.deps (by omega)
  have k2 := equal7_walk t.deps (trim t.deps) (by omega)
  have k3 := at7_walk t.deps t.node (by omega)
  have k5 := right10_walk t.node t.seq t.effs (by omega) h3
  have k6 := effHeard10_walk t.effs t.node t.seq t.deps (by omega) h3 (by omega)
  obtain ⟨hs1, hs2⟩ := hs
  refine NP.mk (by kernel_rfl) ?_
  apply NDr.rd [0]
  · intro fH TH
    exact ⟨rfl, rfl⟩
  apply NDr.rd [0]
  · intro fH TH
    exact ⟨rfl, rfl⟩
  apply NDr.pure
  · exact NB.det
  apply NDr.pure
  · exact ⟨rfl, rfl⟩
  refine NB.mk (fun hk2 => ?_) (fun hk2 => ?_)
  · refine NB.yes (by assumption) ?_
    refine NB.yes (by assumption) ?_
    apply NDr.pure
    · refine NB.yes (by assumption) ?_
      exact ⟨rfl, rfl⟩
    apply NDr.pure
    · exact ⟨rfl, rfl⟩
    apply NDr.pure
    · exact ⟨rfl, rfl⟩
    apply NDr.pure
    · exact ⟨rfl, rfl⟩
    apply NDr.pure
    · exact ⟨rfl, rfl⟩
    apply NDr.pure
    · exact ⟨rfl, rfl⟩
    apply NDr.pure
    · exact ⟨rfl, rfl⟩
    apply NDr.pure
    · exact ⟨rfl, rfl⟩
    apply NDr.pure
    · exact ⟨rfl, rfl⟩
    apply NDr.pure
    · exact ⟨rfl, rfl⟩
    apply NDr.pure
    · exact ⟨rfl, rfl⟩
    refine NP.mk (by kernel_rfl) ?_
    refine NRet.boolE (b := false) ?_ (NRet.mk [] rfl ⟨.refl _, rfl⟩)
    grind [formed, vecOk, all_le]
  apply NDr.rd [0]
  · intro fH TH
    exact ⟨rfl, rfl⟩
  refine NB.no (by assumption) ?_
  apply NDr.rd [0]
  · intro fH TH
    exact ⟨rfl, rfl⟩
  refine NB.no (by assumption) ?_
  apply NDr.pure
  · exact NB.det
  apply NDr.pure
  · refine NB.no (by assumption) ?_
    exact ⟨rfl, rfl⟩
  apply NDr.pure
  · exact ⟨rfl, rfl⟩
  refine NB.mk (fun hk10 => ?_) (fun hk10 => ?_)
  · refine NB.yes (by assumption) ?_
    refine NB.yes (by assumption) ?_
    apply NDr.pure
    · refine NB.yes (by assumption) ?_
      exact ⟨rfl, rfl⟩
    apply NDr.pure
    · exact ⟨rfl, rfl⟩
    apply NDr.pure
    · exact ⟨rfl, rfl⟩
    apply NDr.pure
    · exact ⟨rfl, rfl⟩
    apply NDr.pure
    · exact ⟨rfl, rfl⟩
    apply NDr.pure
    · exact ⟨rfl, rfl⟩
    apply NDr.pure
    · exact ⟨rfl, rfl⟩
    apply NDr.pure
    · exact ⟨rfl, rfl⟩
    apply NDr.pure
    · exact ⟨rfl, rfl⟩
    refine NP.mk (by kernel_rfl) ?_
    refine NRet.boolE (b := false) ?_ (NRet.mk [] rfl ⟨.refl _, rfl⟩)
    grind [formed, vecOk, all_le]
  apply NDr.rd [0]
  · intro fH TH
    exact ⟨rfl, rfl⟩
  refine NB.no (by assumption) ?_
  apply NDr.rd [0]
  · intro fH TH
    exact ⟨rfl, rfl⟩
  refine NB.no (by assumption) ?_
  apply NDr.pure
  · exact NB.det
  apply NDr.pure
  · refine NB.no (by assumption) ?_
    exact ⟨rfl, rfl⟩
  apply NDr.pure
  · exact ⟨rfl, rfl⟩
  refine NB.mk (fun hk18 => ?_) (fun hk18 => ?_)
  · refine NB.yes (by assumption) ?_
    refine NB.yes (by assumption) ?_
    apply NDr.pure
    · refine NB.yes (by assumption) ?_
      exact ⟨rfl, rfl⟩
    apply NDr.pure
    · exact ⟨rfl, rfl⟩
    apply NDr.pure
    · exact ⟨rfl, rfl⟩
    apply NDr.pure
    · exact ⟨rfl, rfl⟩
    apply NDr.pure
    · exact ⟨rfl, rfl⟩
    apply NDr.pure
    · exact ⟨rfl, rfl⟩
    apply NDr.pure
    · exact ⟨rfl, rfl⟩
    refine NP.mk (by kernel_rfl) ?_
    refine NRet.boolE (b := false) ?_ (NRet.mk [] rfl ⟨.refl _, rfl⟩)
    grind [formed, vecOk, all_le]
  apply NDr.rd [0]
  · intro fH TH
    exact ⟨rfl, rfl⟩
  refine NB.no (by assumption) ?_
  apply NDr.rd [0]
  · intro fH TH
    exact ⟨rfl, rfl⟩
  refine NB.no (by assumption) ?_
  apply NDr.pure
  · exact NB.det
  apply NDr.pure
  · refine NB.no (by assumption) ?_
    exact ⟨rfl, rfl⟩
  apply NDr.pure
  · exact ⟨rfl, rfl⟩
  refine NB.mk (fun hk26 => ?_) (fun hk26 => ?_)
  · refine NB.yes (by assumption) ?_
    refine NB.yes (by assumption) ?_
    refine NB.yes (by assumption) ?_
    apply NDr.pure
    · refine NB.yes (by assumption) ?_
      exact ⟨rfl, rfl⟩
    apply NDr.pure
    · exact ⟨rfl, rfl⟩
    apply NDr.pure
    · exact ⟨rfl, rfl⟩
    apply NDr.pure
    · exact ⟨rfl, rfl⟩
    apply NDr.pure
    · exact ⟨rfl, rfl⟩
    refine NP.mk (by kernel_rfl) ?_
    refine NRet.boolE (b := false) ?_ (NRet.mk [] rfl ⟨.refl _, rfl⟩)
    grind [formed, vecOk, all_le]
  apply NDr.rd [0]
  · intro fH TH
    exact ⟨rfl, rfl⟩
  refine NB.no (by assumption) ?_
  apply NDr.rd [0]
  · intro fH TH
    exact ⟨rfl, rfl⟩
  refine NB.no (by assumption) ?_
  apply NDr.pure
  · exact ⟨rfl, rfl⟩
  refine NB.no (by assumption) ?_
  apply NDr.pure
  · exact NB.det
  apply NDr.pure
  · refine NB.no (by assumption) ?_
    exact ⟨rfl, rfl⟩
  apply NDr.pure
  · exact ⟨rfl, rfl⟩
  refine NB.mk (fun hk36 => ?_) (fun hk36 => ?_)
  · refine NB.yes (by assumption) ?_
    refine NB.yes (by assumption) ?_
    refine NB.yes (by assumption) ?_
    apply NDr.pure
    · refine NB.yes (by assumption) ?_
      exact ⟨rfl, rfl⟩
    apply NDr.pure
    · exact ⟨rfl, rfl⟩
    apply NDr.pure
    · exact ⟨rfl, rfl⟩
    refine NP.mk (by kernel_rfl) ?_
    refine NRet.boolE (b := false) ?_ (NRet.mk [] rfl ⟨.refl _, rfl⟩)
    grind [formed, vecOk, all_le]
  apply NDr.rd [0]
  · intro fH TH
    exact ⟨rfl, rfl⟩
  refine NB.no (by assumption) ?_
  apply NDr.rd [0]
  · intro fH TH
    exact ⟨rfl, rfl⟩
  refine NB.no (by assumption) ?_
  apply NDr.pure
  · exact ⟨rfl, rfl⟩
  refine NB.no (by assumption) ?_
  apply NDr.pure
  · exact NB.det
  apply NDr.pure
  · refine NB.no (by assumption) ?_
    exact ⟨rfl, rfl⟩
  apply NDr.pure
  · exact ⟨rfl, rfl⟩
  refine NB.mk (fun hk46 => ?_) (fun hk46 => ?_)
  · refine NB.yes (by assumption) ?_
    refine NB.yes (by assumption) ?_
    refine NB.yes (by assumption) ?_
    refine NB.yes (by assumption) ?_
    refine NB.yes (by assumption) ?_
    refine NB.yes (by assumption) ?_
    apply NDr.pure
    · refine NB.yes (by assumption) ?_
      exact ⟨rfl, rfl⟩
    refine NP.mk (by kernel_rfl) ?_
    refine NRet.boolE (b := false) ?_ (NRet.mk [] rfl ⟨.refl _, rfl⟩)
    grind [formed, vecOk, all_le]
  apply NDr.rd [0]
  · intro fH TH
    exact ⟨rfl, rfl⟩
  refine NB.no (by assumption) ?_
  apply NDr.rd [0]
  · intro fH TH
    exact ⟨rfl, rfl⟩
  refine NB.no (by assumption) ?_
  apply NDr.rd [0]
  · intro fH TH
    exact ⟨rfl, rfl⟩
  refine NB.no (by assumption) ?_
  apply NDr.rd [0]
  · intro fH TH
    exact ⟨rfl, rfl⟩
  refine NB.no (by assumption) ?_
  apply NDr.pure
  · refine NCall.call (k1) rfl rfl ?_
    exact ⟨rfl, rfl⟩
  refine NB.no (by assumption) ?_
  apply NDr.pure
  · refine NCall.call (k2) rfl rfl ?_
    exact ⟨rfl, rfl⟩
  refine NB.no (by assumption) ?_
  apply NDr.pure
  · exact NB.det0'
  apply NDr.pure
  · refine NB.no (by assumption) ?_
    exact ⟨rfl, rfl⟩
  refine NP.mk (by kernel_rfl) ?_
  refine NB.mk (fun hk61 => ?_) (fun hk61 => ?_)
  · refine NRet.boolE (b := false) ?_ (NRet.mk [] rfl ⟨.refl _, rfl⟩)
    grind [formed, vecOk, all_le]
  refine NLoop.mk [] [1, 3] (fun m vs H => ∃ i, i ≤ t.deps.length ∧ m = t.deps.length - i ∧ (∀ x ∈ t.deps.take i, decide (x ≤ 1073741824) = true) ∧ H = [.row .box (.agg 4) [txnA t]] ∧ vs = [.ptr 0 0 0, i64 i]) rfl ?_ ?_
  · exact Canon.mk [0] rfl ⟨t.deps.length, 0, Nat.zero_le _, rfl, by simp, rfl, rfl⟩
  · rintro m vs H ⟨i, hi, rfl, hall, rfl, rfl⟩
    by_cases hil : i < t.deps.length
    · obtain ⟨f1, f2⟩ := all_step (p := fun x => decide (x ≤ 1073741824)) hil hall
      by_cases hd : t.deps[i] ≤ 1073741824
      · refine ND.yes (by (simp only [List.length_map, List.length_append, List.length_replicate, List.length_cons, List.length_nil, List.length_take, List.length_drop]; omega)) ?_
        refine NP.mk (by omega) ?_
        refine NG.mapN (by omega) ?_
        refine ND.no (by omega) ?_
        refine NW.i64 (by omega) (by omega) ?_
        exact Canon.mk [0] rfl ⟨t.deps.length - (i + 1), by omega, i + 1, by omega, rfl, f2 (decide_eq_true hd), rfl, rfl⟩
      · have f1 := f1 (decide_eq_false hd)
        refine ND.yes (by (simp only [List.length_map, List.length_append, List.length_replicate, List.length_cons, List.length_nil, List.length_take, List.length_drop]; omega)) ?_
        refine NP.mk (by omega) ?_
        refine NG.mapN (by omega) ?_
        refine ND.yes (by omega) ?_
        refine NRet.boolE (b := false) ?_ (NRet.mk [] rfl ⟨.refl _, rfl⟩)
        grind [formed, vecOk]
    · have : i = t.deps.length := by omega
      subst this
      have f1 := all_end (p := fun x => decide (x ≤ 1073741824)) hall
      have hb : 0 ≤ vatI t.deps t.node ∧ vatI t.deps t.node ≤ 1073741824 := ⟨vatI_nonneg _ _, vatI_le (fun x hx => of_decide_eq_true (List.all_eq_true.1 f1 x hx)) (by omega) _⟩
      refine ND.no (by (simp only [List.length_map, List.length_append, List.length_replicate, List.length_cons, List.length_nil, List.length_take, List.length_drop]; omega)) ?_
      refine NP.mk (by kernel_rfl) ?_
      apply NDr.rd [0]
      · intro fH TH
        exact ⟨rfl, rfl⟩
      apply NDr.rd [0]
      · intro fH TH
        exact ⟨rfl, rfl⟩
      apply NDr.rd [0]
      · intro fH TH
        exact ⟨rfl, rfl⟩
      apply NDr.rd [0]
      · intro fH TH
        exact ⟨rfl, rfl⟩
      apply NDr.pure
      · refine NCall.call (k3) rfl rfl ?_
        exact ⟨rfl, rfl⟩
      apply NDr.pure
      · refine NW.i64 (by omega) (by omega) ?_
        exact ⟨rfl, rfl⟩
      apply NDr.rd [0]
      · intro fH TH
        exact ⟨rfl, rfl⟩
      apply NDr.rd [0]
      · intro fH TH
        exact ⟨rfl, rfl⟩
      apply NDr.pure
      · exact NB.det
      apply NDr.pure
      · exact ⟨rfl, rfl⟩
      refine NB.mk (fun hk3 => ?_) (fun hk3 => ?_)
      · apply NDr.rd [0]
        · intro fH TH
          exact ⟨rfl, rfl⟩
        refine NB.yes (by assumption) ?_
        apply NDr.rd [0]
        · intro fH TH
          exact ⟨rfl, rfl⟩
        refine NB.yes (by assumption) ?_
        apply NDr.rd [0]
        · intro fH TH
          exact ⟨rfl, rfl⟩
        refine NB.yes (by assumption) ?_
        apply NDr.rd [0]
        · intro fH TH
          exact ⟨rfl, rfl⟩
        refine NB.yes (by assumption) ?_
        apply NDr.rd [0]
        · intro fH TH
          exact ⟨rfl, rfl⟩
        refine NB.yes (by assumption) ?_
        apply NDr.rd [0]
        · intro fH TH
          exact ⟨rfl, rfl⟩
        refine NB.yes (by assumption) ?_
        apply NDr.pure
        · refine NCall.call (k5) rfl rfl ?_
          exact ⟨rfl, rfl⟩
        apply NDr.pure
        · refine NB.yes (by assumption) ?_
          exact ⟨rfl, rfl⟩
        apply NDr.pure
        · exact ⟨rfl, rfl⟩
        refine NB.mk (fun hk11 => ?_) (fun hk11 => ?_)
        · apply NDr.rd [0]
          · intro fH TH
            exact ⟨rfl, rfl⟩
          refine NB.yes (by assumption) ?_
          apply NDr.rd [0]
          · intro fH TH
            exact ⟨rfl, rfl⟩
          refine NB.yes (by assumption) ?_
          apply NDr.rd [0]
          · intro fH TH
            exact ⟨rfl, rfl⟩
          refine NB.yes (by assumption) ?_
          apply NDr.rd [0]
          · intro fH TH
            exact ⟨rfl, rfl⟩
          refine NB.yes (by assumption) ?_
          apply NDr.rd [0]
          · intro fH TH
            exact ⟨rfl, rfl⟩
          refine NB.yes (by assumption) ?_
          apply NDr.rd [0]
          · intro fH TH
            exact ⟨rfl, rfl⟩
          refine NB.yes (by assumption) ?_
          apply NDr.rd [0]
          · intro fH TH
            exact ⟨rfl, rfl⟩
          refine NB.yes (by assumption) ?_
          apply NDr.rd [0]
          · intro fH TH
            exact ⟨rfl, rfl⟩
          refine NB.yes (by assumption) ?_
          apply NDr.pure
          · refine NCall.call (k6) rfl rfl ?_
            exact ⟨rfl, rfl⟩
          apply NDr.pure
          · refine NB.yes (by assumption) ?_
            exact ⟨rfl, rfl⟩
          apply NDr.pure
          · exact ⟨rfl, rfl⟩
          refine NP.mk (by kernel_rfl) ?_
          refine NRet.boolE ?_ (NRet.mk [] rfl ⟨.refl _, rfl⟩)
          grind [formed, vecOk]
        refine NB.no (by assumption) ?_
        refine NB.no (by assumption) ?_
        refine NB.no (by assumption) ?_
        refine NB.no (by assumption) ?_
        refine NB.no (by assumption) ?_
        refine NB.no (by assumption) ?_
        refine NB.no (by assumption) ?_
        refine NB.no (by assumption) ?_
        apply NDr.pure
        · refine NB.no (by assumption) ?_
          exact ⟨rfl, rfl⟩
        apply NDr.pure
        · exact ⟨rfl, rfl⟩
        refine NP.mk (by kernel_rfl) ?_
        refine NRet.boolE (b := false) ?_ (NRet.mk [] rfl ⟨.refl _, rfl⟩)
        grind [formed, vecOk]
      refine NB.no (by assumption) ?_
      refine NB.no (by assumption) ?_
      refine NB.no (by assumption) ?_
      refine NB.no (by assumption) ?_
      refine NB.no (by assumption) ?_
      refine NB.no (by assumption) ?_
      apply NDr.pure
      · refine NB.no (by assumption) ?_
        exact ⟨rfl, rfl⟩
      apply NDr.pure
      · exact ⟨rfl, rfl⟩
      apply NDr.pure
      · exact ⟨rfl, rfl⟩
      apply NDr.pure
      · exact ⟨rfl, rfl⟩
      refine NP.mk (by kernel_rfl) ?_
      refine NRet.boolE (b := false) ?_ (NRet.mk [] rfl ⟨.refl _, rfl⟩)
      grind [formed, vecOk]
end Go.Bv
namespace Go.Bv
set_option linter.unusedSimpArgs false
set_option linter.unusedVariables false
set_option maxHeartbeats 4000000
set_option maxRecDepth 20000
open Go Go.Proofs
def dotE (g : List Dot) : List (AV × AV) := g.map fun d => (dotA d, AV.bool true)
def addD (g : List Dot) (d : Dot) : List Dot := if d ∈ g then g else g ++ [d]
theorem dotE_get (k : List Dot) (i : Nat) : (dotE k)[i]? = (k[i]?).map fun d => (dotA d, AV.bool true) := by unfold dotE; rw [List.getElem?_map]
theorem NFind.dots {k : List Dot} {d : Dot} {T : Nat → AV → Prop} {E : Prop} (h1 : d ∈ k → ∀ i, (dotE k)[i]? = some (dotA d, .bool true) → T i (.bool true)) (h2 : d ∉ k → E) : NFind [0, 0, 0] (dotE k) (dotA d) T E := by
  by_cases h : d ∈ k
  · have hex : ∃ i : Nat, k[i]? = some d := List.getElem?_of_mem h
    obtain ⟨i, hx, hmin⟩ := least_ex hex
    have hi : (dotE k)[i]? = some (dotA d, .bool true) := by rw [dotE_get, hx]; rfl
    refine .hit i (dotA d) (.bool true) hi (by rw [keyEq_dot]; simp) (fun j hj k' v' hjj => ?_) (h1 h i hi)
    rw [dotE_get] at hjj
    cases hkj : k[j]? with
    | none => rw [hkj] at hjj; simp at hjj
    | some y =>
      rw [hkj] at hjj
      simp only [Option.map_some, Option.some.injEq, Prod.mk.injEq] at hjj
      rw [← hjj.1, keyEq_dot, decide_eq_false]
      exact fun e => hmin j hj (by rw [hkj, e])
  · refine .miss (fun j k' v' hjj => ?_) (h2 h)
    rw [dotE_get] at hjj
    cases hkj : k[j]? with
    | none => rw [hkj] at hjj; simp at hjj
    | some y =>
      rw [hkj] at hjj
      simp only [Option.map_some, Option.some.injEq, Prod.mk.injEq] at hjj
      rw [← hjj.1, keyEq_dot, decide_eq_false]
      exact fun e => h (e ▸ List.mem_of_getElem? hkj)
theorem addD_mem (g : List Dot) (d x : Dot) : x ∈ addD g d ↔ x ∈ g ∨ x = d := by
  unfold addD
  split
  · rename_i h; exact ⟨.inl, fun h' => h'.elim id fun e => e ▸ h⟩
  · simp
theorem addAll_mem : ∀ (L g : List Dot) (x : Dot), x ∈ L.foldl addD g ↔ x ∈ g ∨ x ∈ L
  | [], _, _ => by simp
  | d :: L, g, x => by rw [List.foldl_cons, addAll_mem L, addD_mem, List.mem_cons, or_assoc]
theorem addD_old {g : List Dot} {d : Dot} (h : d ∈ g) : addD g d = g := if_pos h
theorem addD_new {g : List Dot} {d : Dot} (h : d ∉ g) : dotE g ++ [(dotA d, AV.bool true)] = dotE (addD g d) := by
  unfold addD dotE
  rw [if_neg h, List.map_append]; rfl
def goneT (l : List Txn) : List Dot := (dropsT l).foldl addD []
def goneE (g : List Dot) (l : List Eff) : List Dot := (dropsE l).foldl addD g
theorem goneT_snoc {l : List Txn} {i : Nat} (h : i < l.length) : goneT (l.take (i + 1)) = goneE (goneT (l.take i)) l[i].effs := by
  unfold goneT goneE dropsT
  rw [List.take_succ_eq_append_getElem h, List.flatMap_append, List.foldl_append]
  simp
theorem goneE_snoc {g : List Dot} {l : List Eff} {i : Nat} (h : i < l.length) : goneE g (l.take (i + 1)) = l[i].drops.foldl addD (goneE g (l.take i)) := by
  unfold goneE dropsE
  rw [List.take_succ_eq_append_getElem h, List.flatMap_append, List.foldl_append]
  simp
theorem foldl_snoc {α β : Type} (f : β → α → β) (b : β) {l : List α} {i : Nat} (h : i < l.length) : (l.take (i + 1)).foldl f b = f ((l.take i).foldl f b) l[i] := by
  rw [List.take_succ_eq_append_getElem h, List.foldl_append]; rfl
def madeG (g : List Dot) (l : List Txn) : List Item := l.flatMap fun t => (t.effs.filter fun e => decide (e.kind ≠ 0 ∧ (⟨t.node, t.seq, e.at'⟩ : Dot) ∉ g)).map (made t.node t.seq)
theorem madeG_is {g : List Dot} {l : List Txn} (h : ∀ d, d ∈ g ↔ d ∈ dropsT l) : madeG g l = madeL' l := by
  unfold madeG madeL'
  simp only [h]
theorem goneT_mem (l : List Txn) (d : Dot) : d ∈ goneT l ↔ d ∈ dropsT l := by
  unfold goneT
  rw [addAll_mem]; simp
theorem madeG_len (g : List Dot) : ∀ (l : List Txn), (∀ t ∈ l, t.effs.length ≤ 100) → (madeG g l).length ≤ 100 * l.length
  | [], _ => by simp [madeG]
  | t :: l, h => by
    have h1 := madeG_len g l fun t' h' => h t' (List.mem_cons_of_mem _ h')
    have h2 := h t (List.mem_cons_self ..)
    unfold madeG at *
    rw [List.flatMap_cons, List.length_append, List.length_map, List.length_cons]
    have := List.length_filter_le (fun e : Eff => decide (e.kind ≠ 0 ∧ (⟨t.node, t.seq, e.at'⟩ : Dot) ∉ g)) t.effs
    omega
theorem madeG_snoc (g : List Dot) {l : List Txn} {i : Nat} (h : i < l.length) : madeG g (l.take (i + 1)) = madeG g (l.take i) ++ (l[i].effs.filter fun e => decide (e.kind ≠ 0 ∧ (⟨l[i].node, l[i].seq, e.at'⟩ : Dot) ∉ g)).map (made l[i].node l[i].seq) := by
  unfold madeG
  rw [List.take_succ_eq_append_getElem h, List.flatMap_append]
  simp
theorem means_walk (l : List Txn) (hl : l.length ≤ 500) (hx : ∀ t ∈ l, smTxn t) (hn : ∀ t ∈ l, t.effs.length ≤ 100) : ACalls Try.prog Nm.spec_Means [txnsA l] [] (itemsA (means l)) [] := by
  refine ACalls_of tab (dr_snd tab mixed) Nm.spec_Means_h rfl (by kernel_rfl) (Nat.le_of_ble_eq_true rfl) rfl ?_
  skip
  refine NLoop.mk [] [0, 3, 17, 18, 19] (fun m vs H => ∃ i, i ≤ l.length ∧ m = l.length - i ∧ H = [.map (dotE (goneT (l.take i)))] ∧ vs = [txnsA l, .map 0, txnsA l, i64 l.length, i64 i]) rfl ?_ ?_
  · exact Canon.mk [0] rfl ⟨l.length, 0, Nat.zero_le _, rfl, rfl, by simp [txnsA, i64]⟩
  rintro m vs H ⟨i, hi, rfl, rfl, rfl⟩
  by_cases hil : i < l.length
  · have hg := goneT_snoc hil
    refine ND.yes (by omega) ?_
    refine NP.mk (by omega) ?_
    refine NG.mapN (by omega) ?_
    refine NLoop.mk [] [0, 3, 17, 18, 19, 24, 25, 26] (fun m vs H => ∃ j, j ≤ l[i].effs.length ∧ m = l[i].effs.length - j ∧ H = [.map (dotE (goneE (goneT (l.take i)) (l[i].effs.take j)))] ∧ vs = [txnsA l, .map 0, txnsA l, i64 l.length, i64 i, effsA l[i].effs, i64 l[i].effs.length, i64 j]) rfl ?_ ?_
    · exact Canon.mk [0] rfl ⟨l[i].effs.length, 0, Nat.zero_le _, rfl, rfl, by simp [txnsA, effsA, i64]⟩
    rintro m vs H ⟨j, hj, rfl, rfl, rfl⟩
    have hes := hn _ (List.getElem_mem hil)
    have hsx := (hx _ (List.getElem_mem hil)).2.2.2
    generalize goneT (l.take i) = g0 at *
    generalize l[i].effs = es at *
    by_cases hjl : j < es.length
    · have hg2 := goneE_snoc (g := g0) hjl
      have hdl := (hsx _ (List.getElem_mem hjl)).2.2.2
      refine ND.yes (by omega) ?_
      refine NP.mk (by omega) ?_
      refine NG.mapN (by omega) ?_
      refine NLoop.mk [] [0, 3, 17, 18, 19, 24, 25, 26, 31, 32, 33] (fun m vs H => ∃ k, k ≤ es[j].drops.length ∧ m = es[j].drops.length - k ∧ H = [.map (dotE ((es[j].drops.take k).foldl addD (goneE g0 (es.take j))))] ∧ vs = [txnsA l, .map 0, txnsA l, i64 l.length, i64 i, effsA es, i64 es.length, i64 j, dotsA es[j].drops, i64 es[j].drops.length, i64 k]) rfl ?_ ?_
      · exact Canon.mk [0] rfl ⟨es[j].drops.length, 0, Nat.zero_le _, rfl, rfl, by simp [txnsA, effsA, dotsA, i64]⟩
      rintro m vs H ⟨k, hk, rfl, rfl, rfl⟩
      by_cases hkl : k < es[j].drops.length
      · have hg3 := foldl_snoc addD (goneE g0 (es.take j)) hkl
        generalize (es[j].drops.take k).foldl addD (goneE g0 (es.take j)) = g1 at *
        refine ND.yes (by omega) ?_
        refine NP.mk (by omega) ?_
        refine NG.mapN (by omega) ?_
        refine NFind.dots (d := es[j].drops[k]) (fun hd q hq => ?_) (fun hd => ?_)
        · have e1 : (dotE g1).set q (dotA es[j].drops[k], .bool true) = dotE g1 := set_same hq
          refine NW.i64 (by omega) (by omega) ?_
          exact Canon.mk [0] rfl ⟨es[j].drops.length - (k + 1), by omega, k + 1, by omega, rfl, by rw [hg3, addD_old hd]; exact congrArg (fun m => [Blk.map m]) e1, rfl⟩
        · refine NW.i64 (by omega) (by omega) ?_
          exact Canon.mk [0] rfl ⟨es[j].drops.length - (k + 1), by omega, k + 1, by omega, rfl, by rw [hg3]; exact congrArg (fun m => [Blk.map m]) (addD_new hd), rfl⟩
      have : k = es[j].drops.length := by omega
      subst this
      rw [List.take_length, ← hg2]
      refine ND.no (by omega) ?_
      refine NW.i64 (by omega) (by omega) ?_
      exact Canon.mk [0] rfl ⟨es.length - (j + 1), by omega, j + 1, by omega, rfl, rfl, rfl⟩
    have : j = es.length := by omega
    subst this
    rw [List.take_length]
    refine ND.no (by omega) ?_
    refine NW.i64 (by omega) (by omega) ?_
    exact Canon.mk [0] rfl ⟨l.length - (i + 1), by omega, i + 1, by omega, rfl, by rw [hg], rfl⟩
  have : i = l.length := by omega
  subst this
  rw [List.take_length]
  refine ND.no (by omega) ?_
  refine NLoop.mk [(10, .agg 8)] [3, 10, 42, 43, 44] (fun m vs H => ∃ i, i ≤ l.length ∧ m = l.length - i ∧ H = [.map (dotE (goneT l)), .row .vrow (.agg 8) ((madeG (goneT l) (l.take i)).map itemA)] ∧ vs = [.map 0, .own 1 0 ((madeG (goneT l) (l.take i)).map itemA).length, txnsA l, i64 l.length, i64 i]) rfl ?_ ?_
  · exact Canon.mk [0, 1] rfl ⟨l.length, 0, Nat.zero_le _, rfl, rfl, by simp [txnsA, i64, madeG]⟩
  rintro m vs H ⟨i, hi, rfl, rfl, rfl⟩
  by_cases hil : i < l.length
  · have hs := madeG_snoc (goneT l) hil
    refine ND.yes (by omega) ?_
    refine NP.mk (by omega) ?_
    refine NG.mapN (by omega) ?_
    have hes := hn _ (List.getElem_mem hil)
    have hlen := madeG_len (goneT l) (l.take i) fun t ht => hn t (List.mem_of_mem_take ht)
    rw [List.length_take] at hlen
    generalize hG : goneT l = G at *
    generalize hB : madeG G (l.take i) = B at *
    refine NLoop.mk [] [3, 10, 42, 43, 44, 12, 49, 50, 51] (fun m vs H => ∃ j, j ≤ l[i].effs.length ∧ m = l[i].effs.length - j ∧ H = [.map (dotE G), .row .vrow (.agg 8) ((B ++ ((l[i].effs.take j).filter fun e => decide (e.kind ≠ 0 ∧ (⟨l[i].node, l[i].seq, e.at'⟩ : Dot) ∉ G)).map (made l[i].node l[i].seq)).map itemA), .row .box (.agg 4) [.agg (txnC l[i])]] ∧
      vs = [.map 0, .own 1 0 ((B ++ ((l[i].effs.take j).filter fun e => decide (e.kind ≠ 0 ∧ (⟨l[i].node, l[i].seq, e.at'⟩ : Dot) ∉ G)).map (made l[i].node l[i].seq)).map itemA).length, txnsA l, i64 l.length, i64 i, .ptr 2 0 0, effsA l[i].effs, i64 l[i].effs.length, i64 j]) rfl ?_ ?_
    · exact Canon.mk [0, 1, 2] rfl ⟨l[i].effs.length, 0, Nat.zero_le _, rfl, by simp only [List.take_zero, List.filter_nil, List.map_nil, List.append_nil] <;> rfl, by simp only [List.take_zero, List.filter_nil, List.map_nil, List.append_nil, List.length_map] <;> rfl⟩
    rintro m vs H ⟨j, hj, rfl, rfl, rfl⟩
    by_cases hjl : j < l[i].effs.length
    · have hf := filter_take (fun e : Eff => decide (e.kind ≠ 0 ∧ (⟨l[i].node, l[i].seq, e.at'⟩ : Dot) ∉ G)) l[i].effs hjl
      have hfl : ((l[i].effs.take j).filter fun e : Eff => decide (e.kind ≠ 0 ∧ (⟨l[i].node, l[i].seq, e.at'⟩ : Dot) ∉ G)).length ≤ j := Nat.le_trans (List.length_filter_le _ _) (by rw [List.length_take]; omega)
      generalize ((l[i].effs.take j).filter fun e : Eff => decide (e.kind ≠ 0 ∧ (⟨l[i].node, l[i].seq, e.at'⟩ : Dot) ∉ G)) = F at *
      have hbl : (B ++ F.map (made l[i].node l[i].seq)).length ≤ 2 ^ 38 := by rw [List.length_append, List.length_map]; omega
      generalize hC : B ++ F.map (made l[i].node l[i].seq) = C at *
      by_cases hk : l[i].effs[j].kind = 0
      · rw [decide_eq_false (fun h => h.1 hk), if_neg (by simp)] at hf
        refine ND.yes (by omega) ?_
        refine NP.mk (by omega) ?_
        refine NG.mapN (by omega) ?_
        refine ND.yes (by omega) ?_
        refine NW.i64 (by omega) (by omega) ?_
        exact Canon.mk [0, 1, 2] rfl ⟨l[i].effs.length - (j + 1), by omega, j + 1, by omega, rfl, by rw [hf, hC] <;> rfl, by rw [hf, hC] <;> rfl⟩
      · refine ND.yes (by omega) ?_
        refine NP.mk (by omega) ?_
        refine NG.mapN (by omega) ?_
        refine ND.no (by omega) ?_
        refine NFind.dots (d := ⟨l[i].node, l[i].seq, l[i].effs[j].at'⟩) (fun hd q hq => ?_) (fun hd => ?_)
        · rw [decide_eq_false (fun h => h.2 hd), if_neg (by simp)] at hf
          refine NW.i64 (by omega) (by omega) ?_
          exact Canon.mk [0, 1, 2] rfl ⟨l[i].effs.length - (j + 1), by omega, j + 1, by omega, rfl, by rw [hf, hC] <;> rfl, by rw [hf, hC] <;> rfl⟩
        · rw [decide_eq_true ⟨hk, hd⟩, if_pos rfl] at hf
          have hB2 : B ++ List.map (made l[i].node l[i].seq) (F ++ [l[i].effs[j]]) = C ++ [made l[i].node l[i].seq l[i].effs[j]] := by
            rw [List.map_append, ← List.append_assoc, hC]; rfl
          refine NFz.own ?_
          refine NApp.endA rfl (by simp; omega) ?_
          refine NW.i64 (by omega) (by omega) ?_
          exact Canon.mk [0, 5, 2] rfl ⟨l[i].effs.length - (j + 1), by omega, j + 1, by omega, rfl, by rw [hf, hB2, List.map_append]; rfl, by rw [hf, hB2, List.map_append]; rfl⟩
    have : j = l[i].effs.length := by omega
    subst this
    rw [List.take_length, ← hs]
    refine ND.no (by omega) ?_
    refine NW.i64 (by omega) (by omega) ?_
    exact Canon.mk [0, 1] rfl ⟨l.length - (i + 1), by omega, i + 1, by omega, rfl, rfl, rfl⟩
  have : i = l.length := by omega
  subst this
  rw [List.take_length]
  have hm : norm (madeG (goneT l) l) = means l := by rw [madeG_is (goneT_mem l)]; rfl
  have k1 := norm_list (madeG (goneT l) l) (by have := madeG_len (goneT l) l hn; omega)
  rw [hm] at k1
  refine ND.no (by omega) ?_
  refine NCall.eq (by simp only [List.length_map] <;> exact rfl) ?_
  refine NCall.roA [1] ?_
  rw [(tlm _ _)]
  refine NCall.call (k1) rfl rfl ?_
  exact NRet.mk [] rfl ⟨.refl _, rfl⟩
end Go.Bv
namespace Go.Bv
open Go Go.Proofs
theorem formed_len {t : Txn} (h : formed t = true) : t.effs.length ≤ 8 := by
  unfold formed at h
  simp only [Bool.and_eq_true, decide_eq_true_eq] at h
  omega
theorem okT_mem {l : List Txn} : ∀ t ∈ l.filter okT, formed t = true := fun _ ht => (List.mem_filter.1 ht).2
theorem done_formed {v : List Int} {l : List Txn} : ∀ t ∈ (takeT v (l.filter okT)).1, formed t = true := fun t ht => okT_mem t (takeT_mem ht)
end Go.Bv
namespace Go.Bv
open Go Go.Proofs
def pickT (l : List Txn) (v : List Int) : List Txn := l.filter fun t => hasB v t.node t.seq
theorem all_take {α : Type} {P : α → Prop} {l : List α} {i : Nat} (h : i < l.length) (ht : ∀ x ∈ l.take i, P x) (hp : P l[i]) : ∀ x ∈ l.take (i + 1), P x := fun x hx => by
  rw [List.take_succ_eq_append_getElem h, List.mem_append, List.mem_singleton] at hx
  exact hx.elim (ht x) fun e => e ▸ hp
/-- What a walk needn't look at. -/
def Hid (p : Prop) : Prop := p
theorem hid_take {α : Type} {P : α → Prop} {l : List α} {i : Nat} (h : i < l.length) (ht : Hid (∀ x ∈ l.take i, P x)) (hp : P l[i]) : Hid (∀ x ∈ l.take (i + 1), P x) := all_take h ht hp
theorem hid_zero {α : Type} {P : α → Prop} {l : List α} : Hid (∀ x ∈ l.take 0, P x) := fun _ h => by simp at h
theorem hid_all {α : Type} {P : α → Prop} {l : List α} (h : Hid (∀ x ∈ l.take l.length, P x)) : ∀ x ∈ l, P x := by rwa [List.take_length] at h
theorem part_chain {v : List Int} : ∀ {c : List Txn} {u w : List Int}, chain u c = true → (∀ t ∈ c, okN t) → (∀ i, vat w i = min (vat u i) (vat v i)) → (∀ t ∈ c, hasB v t.node t.seq = true → ∀ i, vat t.deps i ≤ vat v i) →
    chain w (pickT c v) = true ∧ ∀ i, vat (nexts w (pickT c v)) i = min (vat (nexts u c) i) (vat v i)
  | [], u, w, _, _, hw, _ => ⟨rfl, hw⟩
  | t :: c, u, w, hc, hn, hw, hd => by
    obtain ⟨hr, hc'⟩ := (chain_cons u t c).1 hc
    have hn' := fun t' ht' => hn t' (List.mem_cons_of_mem _ ht')
    have hd' := fun t' ht' => hd t' (List.mem_cons_of_mem _ ht')
    have ht := hn t (List.mem_cons_self ..)
    have hdt := hd t (List.mem_cons_self ..)
    obtain ⟨r1, r2, r3⟩ := (ready_iff u t).1 hr
    have hvi : ∀ x : List Int, vatI x t.node = vat x t.node.toNat := fun x => by
      unfold vatI
      rw [if_neg (by unfold okN at ht; omega)]
    have hnu := vat_next u t
    unfold pickT
    rw [List.filter_cons]
    cases hb : hasB v t.node t.seq with
    | true =>
      rw [if_pos rfl]
      have hb' := hb
      unfold hasB at hb'
      have hb' := of_decide_eq_true hb'
      rw [hvi] at hb' r2
      have hw1 : ∀ i, vat (next w t) i = min (vat (next u t) i) (vat v i) := fun i => by
        rw [vat_next, hnu]
        split
        · rename_i h; rw [h.2]; omega
        · exact hw i
      obtain ⟨i1, i2⟩ := part_chain hc' hn' hw1 hd'
      refine ⟨(chain_cons w t _).2 ⟨(ready_iff w t).2 ⟨r1, ?_, fun i => ?_⟩, i1⟩, i2⟩
      · rw [hvi, hw]; omega
      · rw [hw]; have := r3 i; have := hdt hb i; omega
    | false =>
      rw [if_neg (by simp)]
      have hb' := hb
      unfold hasB at hb'
      have hb' := of_decide_eq_false hb'
      rw [hvi] at hb' r2
      refine part_chain hc' hn' (fun i => ?_) hd'
      rw [hw, hnu]
      split
      · rename_i h; rw [h.2]; omega
      · rfl
theorem chain_dots : ∀ {b : List Txn} {v : List Int}, chain v b = true → (∀ t ∈ b, okN t) → (b.map dotOf).Nodup
  | [], _, _, _ => List.nodup_nil
  | t :: b, v, hc, hn => by
    obtain ⟨hr, hc'⟩ := (chain_cons v t b).1 hc
    have hn' := fun t' ht' => hn t' (List.mem_cons_of_mem _ ht')
    have ht := hn t (List.mem_cons_self ..)
    rw [List.map_cons, List.nodup_cons]
    refine ⟨fun h => ?_, chain_dots hc' hn'⟩
    obtain ⟨t', ht', e⟩ := List.mem_map.1 h
    have h1 := (chain_nodup hc' hn').2 t' ht'
    unfold dotOf at e
    simp only [Prod.mk.injEq] at e
    rw [vat_next, e.1, if_pos ⟨ht, rfl⟩] at h1
    omega
theorem pick_perm {l c : List Txn} (h : c.Perm l) (v : List Int) : (pickT c v).Perm (pickT l v) := h.filter _
/-- Of a closed list what a closed vector has heard is closed, has heard just that, and holds nothing twice. -/
theorem part_closed {l : List Txn} {v : List Int} (hc : closedB l = true) (hd : ∀ t ∈ pickT l v, ∀ i, vat t.deps i ≤ vat v i) (hv : ∀ i, vat v i ≤ vat (heardP l) i) :
    closedB (pickT l v) = true ∧ heardP (pickT l v) = trim v ∧ ((pickT l v).map dotOf).Nodup := by
  obtain ⟨h1, h2, h3⟩ := closed_chain hc
  have hp := pick_perm h3 v
  have hn : ∀ t ∈ (takeT [] l).1, okN t := fun t ht => formed_n (h1 t (h3.mem_iff.1 ht))
  have hm : ∀ t, t ∈ pickT (takeT [] l).1 v ↔ t ∈ pickT l v := perm_mem hp
  have hsub : ∀ t ∈ pickT (takeT [] l).1 v, t ∈ (takeT [] l).1 := fun t ht => (List.mem_filter.1 ht).1
  obtain ⟨c1, c2⟩ := part_chain (v := v) (w := []) h2 hn (fun i => by rw [vat_nil]; have := vat_nonneg v i; omega) (fun t ht hb => hd t ((hm t).1 (List.mem_filter.2 ⟨ht, hb⟩)))
  have hn2 : ∀ t ∈ pickT (takeT [] l).1 v, okN t := fun t ht => hn t (hsub t ht)
  have hdn := chain_dots c1 hn2
  have hdl : ((pickT l v).map dotOf).Nodup := (hp.map dotOf).nodup_iff.1 hdn
  refine ⟨?_, ?_, hdl⟩
  · unfold closedB
    rw [Bool.and_eq_true, List.all_eq_true, decide_eq_true_eq]
    refine ⟨fun t ht => h1 t (List.mem_filter.1 ht).1, ?_⟩
    have ht := takeT_of_chain c1
    obtain ⟨q1, q2⟩ := take_any (v := []) (l := pickT (takeT [] l).1 v) (l' := pickT l v) (dots_inj hdn) hm (by rw [ht]; exact nodup_of_dots hdn) (take_nodup (nodup_of_dots hdl))
    rw [ht] at q1
    rw [← q1.length_eq, hp.length_eq]
  · rw [← heardP_congr hm, ← chain_run c1 hn2, ← nexts_trim (v := []) rfl]
    refine trim_ext _ _ fun i => ?_
    rw [c2, closed_heard hc]
    have := hv i
    omega
def ownT (l : List Txn) (key : List UInt8) : List Txn := l.map fun t => { t with effs := t.effs.filter fun e => decide (e.key = key) }
def OwnDrops (l : List Txn) : Prop := ∀ t ∈ l, ∀ e ∈ t.effs, ∀ t' ∈ l, ∀ e' ∈ t'.effs, e'.key ≠ e.key → (⟨t'.node, t'.seq, e'.at'⟩ : Dot) ∉ e.drops
theorem pw_or {α : Type} {R : α → α → Prop} : ∀ {l : List α}, l.Pairwise R → ∀ a ∈ l, ∀ b ∈ l, a = b ∨ R a b ∨ R b a
  | [], _, a, ha, _, _ => by simp at ha
  | x :: l, h, a, ha, b, hb => by
    rw [List.pairwise_cons] at h
    rcases List.mem_cons.1 ha with e | ha'
    · rcases List.mem_cons.1 hb with e2 | hb'
      · exact .inl (e.trans e2.symm)
      · rw [e]; exact .inr (.inl (h.1 b hb'))
    · rcases List.mem_cons.1 hb with e2 | hb'
      · rw [e2]; exact .inr (.inr (h.1 a ha'))
      · exact pw_or h.2 a ha' b hb'
theorem oneDot_made {l : List Txn} (hd : (l.map dotOf).Nodup) (hf : ∀ t ∈ l, formed t = true) : OneDot (madeL' l) := fun x hx y hy e => by
  obtain ⟨t, ht, a, ha, _, rfl, _⟩ := mem_madeL'.1 hx
  obtain ⟨t', ht', b, hb, _, rfl, _⟩ := mem_madeL'.1 hy
  rw [made_dot, made_dot] at e
  injection e with e1 e2 e3
  have := dots_inj hd t ht t' ht' (by unfold dotOf; rw [e1, e2])
  subst this
  have hats := ats_of (formed_right (hf t ht))
  rcases pw_or hats a ha b hb with k | k | k
  · rw [k]
  · omega
  · omega
theorem mem_ownT {l : List Txn} {key : List UInt8} {t : Txn} : t ∈ ownT l key ↔ ∃ t0 ∈ l, { t0 with effs := t0.effs.filter fun e => decide (e.key = key) } = t := by
  unfold ownT
  exact List.mem_map
theorem means_own {l : List Txn} {key : List UInt8} (hd : (l.map dotOf).Nodup) (hf : ∀ t ∈ l, formed t = true) (ho : OwnDrops l) : underI (means l) (fun k => decide (k = key)) = means (ownT l key) := by
  unfold means
  rw [under_norm (oneDot_made hd hf)]
  refine norm_congr fun x => ?_
  rw [mem_under, mem_madeL', mem_madeL', decide_eq_true_eq]
  have hdr : ∀ d, d ∈ dropsT (ownT l key) ↔ ∃ t ∈ l, ∃ e ∈ t.effs, e.key = key ∧ d ∈ e.drops := fun d => by
    rw [mem_dropsT]
    constructor
    · rintro ⟨t, ht, e, he, h⟩
      obtain ⟨t0, h0, rfl⟩ := mem_ownT.1 ht
      obtain ⟨h1, h2⟩ := List.mem_filter.1 he
      exact ⟨t0, h0, e, h1, of_decide_eq_true h2, h⟩
    · rintro ⟨t0, h0, e, h1, h2, h⟩
      exact ⟨_, mem_ownT.2 ⟨t0, h0, rfl⟩, e, List.mem_filter.2 ⟨h1, decide_eq_true h2⟩, h⟩
  constructor
  · rintro ⟨⟨t, ht, e, he, hk, rfl, hn⟩, hkey⟩
    refine ⟨_, mem_ownT.2 ⟨t, ht, rfl⟩, e, List.mem_filter.2 ⟨he, decide_eq_true hkey⟩, hk, rfl, fun h => hn ?_⟩
    obtain ⟨t0, h0, e0, h1, _, h3⟩ := (hdr _).1 h
    exact mem_dropsT.2 ⟨t0, h0, e0, h1, h3⟩
  · rintro ⟨t', ht', e, he, hk, rfl, hn⟩
    obtain ⟨t, ht, rfl⟩ := mem_ownT.1 ht'
    obtain ⟨h1, h2⟩ := List.mem_filter.1 he
    have h2 : e.key = key := of_decide_eq_true h2
    refine ⟨⟨t, ht, e, h1, hk, rfl, fun h => ?_⟩, h2⟩
    obtain ⟨t0, h0, e0, h3, h4⟩ := mem_dropsT.1 h
    by_cases hke : e0.key = key
    · exact hn ((hdr _).2 ⟨t0, h0, e0, h3, hke, h4⟩)
    · exact ho t0 h0 e0 h3 t ht e h1 (by rw [h2]; exact fun h => hke h.symm) h4
end Go.Bv
namespace Go.Bv
set_option linter.unusedSimpArgs false
set_option linter.unusedVariables false
set_option maxHeartbeats 4000000
set_option maxRecDepth 20000
open Go Go.Proofs
theorem indexTn_walk (g : Nat) (l : List Txn) (p : Txn → Bool) (hl : l.length ≤ 2 ^ 40) (hg : ∀ t ∈ l, ACalls Try.prog g [txnA t] [] (.bool (p t)) []) :
    ACalls Try.prog Nm.slices_IndexFunc_api_Txn_api_Txn [txnsA l, .fn g []] [] (i64 (ixI p l)) [] := by
  refine ACalls_of tab (dr_snd tab mixed) Nm.slices_IndexFunc_api_Txn_api_Txn_h rfl (by kernel_rfl) (Nat.le_of_ble_eq_true rfl) rfl ?_
  refine NLoop.mk [] [0, 1, 6, 7, 8] (fun m vs H => ∃ i, i ≤ l.length ∧ m = l.length - i ∧ (∀ x ∈ l.take i, p x = false) ∧ H = [] ∧ vs = [txnsA l, .fn g [], txnsA l, i64 l.length, i64 i]) rfl ?_ ?_
  · exact Canon.mk [] rfl ⟨l.length, 0, Nat.zero_le _, rfl, by simp, rfl, by simp [txnsA, i64]⟩
  · rintro m vs H ⟨i, hi, rfl, ht, rfl, rfl⟩
    by_cases hil : i < l.length
    · have hc := hg _ (List.getElem_mem hil)
      obtain ⟨f1, f2⟩ := find_step hil ht
      cases hp : p l[i] with
      | true =>
        rw [hp] at hc
        rw [f1 hp]
        refine ND.yes (by omega) ?_
        refine NP.mk (by omega) ?_
        refine NG.mapN (by omega) ?_
        refine NCall.call (hc) rfl rfl ?_
        exact NRet.mk [] rfl ⟨.refl _, rfl⟩
      | false =>
        rw [hp] at hc
        refine ND.yes (by omega) ?_
        refine NP.mk (by omega) ?_
        refine NG.mapN (by omega) ?_
        refine NCall.call (hc) rfl rfl ?_
        refine NW.i64 (by omega) (by omega) ?_
        exact Canon.mk [] rfl ⟨l.length - (i + 1), by omega, i + 1, by omega, rfl, f2 hp, rfl, rfl⟩
    · have : i = l.length := by omega
      subst this
      rw [List.take_length] at ht
      rw [find_none ht]
      refine ND.no (by omega) ?_
      exact NRet.mk [] rfl ⟨.refl _, rfl⟩
theorem containsTn_walk (g : Nat) (l : List Txn) (p : Txn → Bool) (hl : l.length ≤ 2 ^ 40) (hg : ∀ t ∈ l, ACalls Try.prog g [txnA t] [] (.bool (p t)) []) :
    ACalls Try.prog Nm.slices_ContainsFunc_api_Txn_api_Txn [txnsA l, .fn g []] [] (.bool (l.any p)) [] := by
  have hi := indexTn_walk g l p hl hg
  refine ACalls_of tab (dr_snd tab mixed) Nm.slices_ContainsFunc_api_Txn_api_Txn_h rfl (by kernel_rfl) (Nat.le_of_ble_eq_true rfl) rfl ?_
  rw [ixI_any]
  by_cases h : 0 ≤ ixI p l
  · rw [decide_eq_true h]
    refine NCall.call (hi) rfl rfl ?_
    refine ND.yes (by omega) ?_
    exact NRet.mk [] rfl ⟨.refl _, rfl⟩
  · rw [decide_eq_false h]
    refine NCall.call (hi) rfl rfl ?_
    refine ND.no (by omega) ?_
    exact NRet.mk [] rfl ⟨.refl _, rfl⟩
end Go.Bv
namespace Go.Bv
set_option linter.unusedSimpArgs false
set_option linter.unusedVariables false
set_option maxHeartbeats 4000000
set_option maxRecDepth 20000
open Go Go.Proofs
def dotT (t : Txn) : Dot := ⟨t.node, t.seq, 0⟩
def thereD (l : List Txn) : List Dot := (l.map dotT).foldl addD []
theorem thereD_snoc {l : List Txn} {i : Nat} (h : i < l.length) : thereD (l.take (i + 1)) = addD (thereD (l.take i)) (dotT l[i]) := by
  unfold thereD
  rw [List.take_succ_eq_append_getElem h, List.map_append, List.foldl_append]; rfl
theorem thereD_mem (l : List Txn) (i s : Int) : (⟨i, s, 0⟩ : Dot) ∈ thereD l ↔ thereB l i s = true := by
  unfold thereD
  rw [addAll_mem, thereB_iff]
  simp only [List.not_mem_nil, false_or, List.mem_map]
  constructor
  · rintro ⟨t, h1, h2⟩
    simp only [dotT, Dot.mk.injEq] at h2
    exact ⟨t, h1, h2.1, h2.2.1⟩
  · rintro ⟨t, h1, h2, h3⟩
    exact ⟨t, h1, by unfold dotT; rw [h2, h3]⟩
theorem runT_le (l : List Txn) (i : Int) : runT l i ≤ l.length := many_len _ (runT_spec l i).1
def hw0 (l : List Txn) (i : Nat) : List Int := tab0 (fun i => (runT l (i : Int) : Int)) i ++ List.replicate (8 - i) 0
theorem hw0_len (l : List Txn) {i : Nat} (h : i ≤ 8) : (hw0 l i).length = 8 := by
  unfold hw0
  rw [List.length_append, tab0_len, List.length_replicate]; omega
theorem hw0_at (l : List Txn) {i : Nat} (h : i < 8) : (hw0 l i).set i 0 = hw0 l i := by
  unfold hw0
  rw [show 8 - i = (7 - i) + 1 by omega, List.replicate_succ, List.set_append_right _ _ (by rw [tab0_len]; omega), tab0_len, Nat.sub_self]; rfl
theorem hw0_snoc (l : List Txn) {i : Nat} (h : i < 8) : (hw0 l i).set i (runT l (i : Int) : Int) = hw0 l (i + 1) := by
  unfold hw0
  rw [show 8 - i = (7 - i) + 1 by omega, show 8 - (i + 1) = 7 - i by omega, List.replicate_succ, List.set_append_right _ _ (by rw [tab0_len]; omega), tab0_len, Nat.sub_self, tab0_succ, List.append_assoc]; rfl
theorem hw0_full (l : List Txn) : trim (hw0 l 8) = heardP l := by
  unfold hw0 heardP
  rw [Nat.sub_self, List.replicate_zero, List.append_nil]
theorem heard_walk (l : List Txn) (hl : l.length ≤ 5000) : ACalls Try.prog Nm.spec_Heard [txnsA l] [] (ints (heardP l)) [] := by
  refine ACalls_of tab (dr_snd tab mixed) Nm.spec_Heard_h rfl (by kernel_rfl) (Nat.le_of_ble_eq_true rfl) rfl ?_
  skip
  refine NLoop.mk [] [3, 9, 10, 11] (fun m vs H => ∃ i, i ≤ l.length ∧ m = l.length - i ∧ H = [.map (dotE (thereD (l.take i)))] ∧ vs = [.map 0, txnsA l, i64 l.length, i64 i]) rfl ?_ ?_
  · exact Canon.mk [0] rfl ⟨l.length, 0, Nat.zero_le _, rfl, rfl, by simp [txnsA, i64]⟩
  rintro m vs H ⟨i, hi, rfl, rfl, rfl⟩
  by_cases hil : i < l.length
  · have hg := thereD_snoc hil
    generalize thereD (l.take i) = g1 at *
    refine ND.yes (by omega) ?_
    refine NP.mk (by omega) ?_
    refine NG.mapN (by omega) ?_
    refine NCall.call (dot_walk l[i]) rfl rfl ?_
    refine NFind.dots (d := dotT l[i]) (fun hd q hq => ?_) (fun hd => ?_)
    · have e1 : (dotE g1).set q (dotA (dotT l[i]), .bool true) = dotE g1 := set_same hq
      refine NW.i64 (by omega) (by omega) ?_
      exact Canon.mk [0] rfl ⟨l.length - (i + 1), by omega, i + 1, by omega, rfl, by rw [hg, addD_old hd]; exact congrArg (fun m => [Blk.map m]) e1, rfl⟩
    · refine NW.i64 (by omega) (by omega) ?_
      exact Canon.mk [0] rfl ⟨l.length - (i + 1), by omega, i + 1, by omega, rfl, by rw [hg]; exact congrArg (fun m => [Blk.map m]) (addD_new hd), rfl⟩
  have : i = l.length := by omega
  subst this
  rw [List.take_length]
  refine ND.no (by omega) ?_
  refine NP.mk (by omega) ?_
  refine NMk.own ?_
  refine NLoop.mk [] [3, 6, 21, 22] (fun m vs H => ∃ i, i ≤ 8 ∧ m = 8 - i ∧ H = [.map (dotE (thereD l)), .row .row .leaf ((hw0 l i).map i64)] ∧ vs = [.map 0, .own 1 0 8, i64 8, i64 i]) rfl ?_ ?_
  · exact Canon.mk [0, 1] rfl ⟨8, 0, Nat.zero_le _, rfl, rfl, rfl⟩
  rintro m vs H ⟨i, hi, rfl, rfl, rfl⟩
  have hwl := hw0_len l hi
  by_cases hil : i < 8
  · have hsn := hw0_snoc l hil
    have hat := hw0_at l hil
    obtain ⟨hr1, hr2⟩ := runT_spec l (i : Int)
    have hrl := runT_le l (i : Int)
    generalize hw0 l i = w at *
    refine ND.yes (by omega) ?_
    refine NLoop.mk [] [3, 6, 7, 21, 22] (fun m vs H => ∃ k, k ≤ runT l (i : Int) ∧ m = runT l (i : Int) - k ∧ H = [.map (dotE (thereD l)), .row .row .leaf ((w.set i (k : Int)).map i64)] ∧ vs = [.map 0, .own 1 0 8, i64 i, i64 8, i64 i]) rfl ?_ ?_
    · exact Canon.mk [0, 1] rfl ⟨runT l (i : Int), 0, Nat.zero_le _, rfl, by rw [show ((0 : Nat) : Int) = 0 from rfl, hat], rfl⟩
    rintro m vs H ⟨k, hk, rfl, rfl, rfl⟩
    obtain ⟨u, hu⟩ : ∃ u, u = w.set i (k : Int) := ⟨_, rfl⟩
    have hul : u.length = 8 := by rw [hu, List.length_set, hwl]
    have hui : ∀ h, u[i]'h = (k : Int) := fun h => by subst hu; rw [List.getElem_set_self]
    rw [← hu]
    have hil2 : i < u.length := by omega
    have huk := hui hil2
    by_cases hkl : k < runT l (i : Int)
    · have hm := (thereD_mem l (i : Int) ((k : Int) + 1)).2 (by have := hr1 (k + 1) (by omega) (by omega); rwa [show ((k + 1 : Nat) : Int) = (k : Int) + 1 by omega] at this)
      rw [← huk] at hm
      refine NP.mk (by (simp only [List.length_map, List.length_append, List.length_replicate, List.length_cons, List.length_nil, List.length_take, List.length_drop]; omega)) ?_
      refine NG.map0N (by omega) ?_
      refine NW.i64 (by omega) (by omega) ?_
      refine NFind.dots (d := ⟨i, u[i] + 1, 0⟩) (fun hd q hq => ?_) (fun hd => absurd hm hd)
      refine NP.mk (by (simp only [List.length_map, List.length_append, List.length_replicate, List.length_cons, List.length_nil, List.length_take, List.length_drop]; omega)) ?_
      refine NG.map0N (by omega) ?_
      refine NW.i64 (by omega) (by omega) ?_
      refine NP.mk (by (simp only [List.length_map, List.length_append, List.length_replicate, List.length_cons, List.length_nil, List.length_take, List.length_drop]; omega)) ?_
      refine NG.map0N (by omega) ?_
      exact Canon.mk [0, 1] rfl ⟨runT l (i : Int) - (k + 1), by omega, k + 1, by omega, rfl, by
        have e1 : (u.map i64).set (0 + (i : Int).toNat) (i64 (u[i] + 1)) = (w.set i ((k + 1 : Nat) : Int)).map i64 := by
          rw [Nat.zero_add, Int.toNat_natCast, ← List.map_set, huk, hu, List.set_set]; rfl
        exact congrArg (fun r => [Blk.map (dotE (thereD l)), Blk.row .row .leaf r]) e1, rfl⟩
    · have hke : k = runT l (i : Int) := by omega
      have hm : (⟨(i : Int), (k : Int) + 1, 0⟩ : Dot) ∉ thereD l := by rw [thereD_mem, hke, hr2]; simp
      rw [← huk] at hm
      refine NP.mk (by (simp only [List.length_map, List.length_append, List.length_replicate, List.length_cons, List.length_nil, List.length_take, List.length_drop]; omega)) ?_
      refine NG.map0N (by omega) ?_
      refine NW.i64 (by omega) (by omega) ?_
      refine NFind.dots (d := ⟨i, u[i] + 1, 0⟩) (fun hd q hq => absurd hd hm) (fun hd => ?_)
      refine NW.i64 (by omega) (by omega) ?_
      exact Canon.mk [0, 1] rfl ⟨8 - (i + 1), by omega, i + 1, by omega, rfl, by rw [hu, hke, hsn], rfl⟩
  have : i = 8 := by omega
  subst this
  have h1 := vecTrim_walk (hw0 l 8) (by omega)
  rw [hw0_full] at h1
  refine ND.no (by omega) ?_
  refine NCall.frzAllN [1] (h1) (.cons (.own (by simp) rfl (by simp) (by simp; omega) (by rw [List.drop_zero, List.take_of_length_le (by simp; omega)])) .nil) rfl rfl rfl ?_
  exact NRet.mk [] rfl ⟨.refl _, rfl⟩
theorem notFormed26_walk (t : Txn) (ht : smTxn t) : ACalls Try.prog Nm.spec_Closed_1 [txnA t] [] (.bool (!formed t)) [] := by
  refine ACalls_of tab (dr_snd tab mixed) Nm.spec_Closed_1_h rfl (by kernel_rfl) (Nat.le_of_ble_eq_true rfl) rfl ?_
  refine NCall.call (formed_walk t ht) rfl rfl ?_
  refine NB.mk (fun hk1 => ?_) (fun hk1 => ?_)
  · refine NRet.boolE (b := false) ?_ (NRet.mk [] rfl ⟨.refl _, rfl⟩)
    (simp [*]; done)
  refine NRet.boolE (b := true) ?_ (NRet.mk [] rfl ⟨.refl _, rfl⟩)
  (simp [*]; done)
theorem closed_walk (l : List Txn) (hl : l.length ≤ 2 ^ 30) (hx : ∀ t ∈ l, smTxn t) : ACalls Try.prog Nm.spec_Closed [txnsA l] [] (.bool (closedB l)) [] := by
  refine ACalls_of tab (dr_snd tab mixed) Nm.spec_Closed_h rfl (by kernel_rfl) (Nat.le_of_ble_eq_true rfl) rfl ?_
  have h1 := containsTn_walk Nm.spec_Closed_1 l (fun t => !formed t) (by omega) (fun t ht => notFormed26_walk t (hx t ht))
  have h2 := take_walk [] l (by simp) hl hx
  have e : (l.any fun t => !formed t) = !(l.all fun t => formed t) := by rw [List.not_all_eq_any_not]
  unfold closedB
  cases hf : l.all (fun t => formed t) with
  | false =>
    rw [e, hf] at h1
    refine NCall.call (h1) rfl rfl ?_
    exact NRet.mk [] rfl ⟨.refl _, rfl⟩
  | true =>
    rw [e, hf] at h1
    by_cases hk : (takeT [] l).1.length = l.length
    · rw [decide_eq_true hk]
      refine NCall.call (h1) rfl rfl ?_
      refine NCall.call (ACalls.args (h2) (by repeat (first | exact LeA.refl _ | exact LeA.nils _ | refine LeA.agg ?_ | refine LeA.list _ ?_ | exact LeAs.nil | refine LeAs.cons ?_ ?_))) rfl rfl ?_
      refine ND.yes (by (simp only [List.length_map, List.length_append, List.length_replicate, List.length_cons, List.length_nil, List.length_take, List.length_drop]; omega)) ?_
      exact NRet.mk [] rfl ⟨.refl _, rfl⟩
    · rw [decide_eq_false hk]
      refine NCall.call (h1) rfl rfl ?_
      refine NCall.call (ACalls.args (h2) (by repeat (first | exact LeA.refl _ | exact LeA.nils _ | refine LeA.agg ?_ | refine LeA.list _ ?_ | exact LeAs.nil | refine LeAs.cons ?_ ?_))) rfl rfl ?_
      refine ND.no (by (simp only [List.length_map, List.length_append, List.length_replicate, List.length_cons, List.length_nil, List.length_take, List.length_drop]; omega)) ?_
      exact NRet.mk [] rfl ⟨.refl _, rfl⟩
theorem pick_walk (l : List Txn) (v : List Int) (hl : l.length ≤ 2 ^ 30) (hx : ∀ t ∈ l, smTxn t) (hv : v.length ≤ 2 ^ 38) : ACalls Try.prog Nm.spec_Pick [txnsA l, ints v] [] (txnsA (pickT l v)) [] := by
  refine ACalls_of tab (dr_snd tab mixed) Nm.spec_Pick_h rfl (by kernel_rfl) (Nat.le_of_ble_eq_true rfl) rfl ?_
  skip
  refine NLoop.mk [(5, .agg 4)] [1, 5, 8, 9, 10] (fun m vs H => ∃ i, i ≤ l.length ∧ m = l.length - i ∧ H = [.row .vrow (.agg 4) ((pickT (l.take i) v).map txnA)] ∧ vs = [ints v, .own 0 0 ((pickT (l.take i) v).map txnA).length, txnsA l, i64 l.length, i64 i]) rfl ?_ ?_
  · exact Canon.mk [0] rfl ⟨l.length, 0, Nat.zero_le _, rfl, rfl, by simp [txnsA, ints, i64, pickT]⟩
  rintro m vs H ⟨i, hi, rfl, rfl, rfl⟩
  by_cases hil : i < l.length
  · have hs := filter_take (fun t : Txn => hasB v t.node t.seq) l hil
    have hfl : (pickT (l.take i) v).length ≤ i := Nat.le_trans (List.length_filter_le _ _) (by rw [List.length_take]; omega)
    have hsm := hx _ (List.getElem_mem hil)
    have k1 := vecHas_walk v l[i].node l[i].seq 0 (by omega)
    have k2 := cloneV_list l[i].deps (by have := hsm.2.1; omega)
    have k3 := txnOnlyAll_walk l[i] hsm
    unfold pickT at *
    generalize (l.take i).filter (fun t : Txn => hasB v t.node t.seq) = F at *
    cases hp : hasB v l[i].node l[i].seq with
    | true =>
      rw [hp, if_pos rfl] at hs
      unfold hasB at hp
      rw [hp] at k1
      refine ND.yes (by omega) ?_
      refine NP.mk (by omega) ?_
      refine NG.mapN (by omega) ?_
      refine NCall.call (dot_walk l[i]) rfl rfl ?_
      refine NCall.call (k1) rfl rfl ?_
      refine NCall.call (k2) rfl rfl ?_
      refine NCall.call (k3) rfl rfl ?_
      refine NFz.own ?_
      refine NApp.endA rfl (by simp; omega) ?_
      refine NW.i64 (by omega) (by omega) ?_
      exact Canon.mk [2] rfl ⟨l.length - (i + 1), by omega, i + 1, by omega, rfl, by rw [hs, List.map_append]; rfl, by rw [hs, List.map_append]; rfl⟩
    | false =>
      rw [hp, if_neg (by simp)] at hs
      unfold hasB at hp
      rw [hp] at k1
      refine ND.yes (by omega) ?_
      refine NP.mk (by omega) ?_
      refine NG.mapN (by omega) ?_
      refine NCall.call (dot_walk l[i]) rfl rfl ?_
      refine NCall.call (k1) rfl rfl ?_
      refine NW.i64 (by omega) (by omega) ?_
      exact Canon.mk [0] rfl ⟨l.length - (i + 1), by omega, i + 1, by omega, rfl, by rw [hs] <;> rfl, by rw [hs] <;> rfl⟩
  have : i = l.length := by omega
  subst this
  rw [List.take_length]
  refine ND.no (by omega) ?_
  exact NRet.mk [] rfl (NFrz.mk ((pickT l v).map txnA) (by simp) (by rw [List.drop_zero, List.take_of_length_le (by simp)]) ⟨.refl _, rfl⟩)
end Go.Bv
namespace Go.Bv
set_option linter.unusedSimpArgs false
set_option linter.unusedVariables false
set_option maxHeartbeats 4000000
set_option maxRecDepth 20000
open Go Go.Proofs
end Go.Bv
namespace Go.Bv
set_option linter.unusedSimpArgs false
set_option linter.unusedVariables false
set_option maxHeartbeats 4000000
set_option maxRecDepth 20000
open Go Go.Proofs
theorem is9_walk (D : List Dot) (d : Dot) (hD : D.length ≤ 2 ^ 40) : ACalls Try.prog Nm.ref09_Is [dotsA D, dotA d] [] (.bool (decide (d ∈ D))) [] := by
  refine ACalls_of tab (dr_snd tab mixed) Nm.ref09_Is_h rfl (by kernel_rfl) (Nat.le_of_ble_eq_true rfl) rfl ?_
  skip
  refine NLoop.mk [] [0, 3, 5] (fun m vs H => ∃ i, i ≤ D.length ∧ m = D.length - i ∧ (∀ x ∈ D.take i, decide (d = x) = false) ∧ H = [.row .box (.agg 3) [dotA d]] ∧ vs = [dotsA D, .ptr 0 0 0, i64 i]) rfl ?_ ?_
  · exact Canon.mk [0] rfl ⟨D.length, 0, Nat.zero_le _, rfl, by simp, rfl, rfl⟩
  · rintro m vs H ⟨i, hi, rfl, ht, rfl, rfl⟩
    by_cases hil : i < D.length
    · obtain ⟨f1, f2⟩ := find_step hil ht
      by_cases hp : d = D[i]
      · have e1 : d.node = D[i].node := by rw [← hp]
        have e2 : d.seq = D[i].seq := by rw [← hp]
        have e3 : d.at' = D[i].at' := by rw [← hp]
        rw [decide_eq_true (show d ∈ D from by rw [hp]; exact List.getElem_mem hil)]
        refine ND.yes (by (simp only [List.length_map, List.length_append, List.length_replicate, List.length_cons, List.length_nil, List.length_take, List.length_drop]; omega)) ?_
        refine NP.mk (by kernel_rfl) ?_
        apply NDr.pure
        · exact ⟨rfl, rfl⟩
        apply NDr.pure
        · exact ⟨rfl, rfl⟩
        apply NDr.pure
        · refine NP.mk (by omega) ?_
          refine NG.mapN (by omega) ?_
          exact ⟨rfl, rfl⟩
        apply NDr.pure
        · exact ⟨rfl, rfl⟩
        apply NDr.rd [0]
        · intro fH TH
          exact ⟨rfl, rfl⟩
        apply NDr.pure
        · refine ND.yes (by simp [*]) ?_
          exact ⟨rfl, rfl⟩
        refine NP.mk (by kernel_rfl) ?_
        exact NRet.mk [] rfl ⟨.refl _, rfl⟩
      · have hne : ¬ (d.node = D[i].node ∧ d.seq = D[i].seq ∧ d.at' = D[i].at') := fun h => hp (Dot.ext h.1 h.2.1 h.2.2)
        refine ND.yes (by (simp only [List.length_map, List.length_append, List.length_replicate, List.length_cons, List.length_nil, List.length_take, List.length_drop]; omega)) ?_
        refine NP.mk (by kernel_rfl) ?_
        apply NDr.pure
        · exact ⟨rfl, rfl⟩
        apply NDr.pure
        · exact ⟨rfl, rfl⟩
        apply NDr.pure
        · refine NP.mk (by omega) ?_
          refine NG.mapN (by omega) ?_
          exact ⟨rfl, rfl⟩
        apply NDr.pure
        · exact ⟨rfl, rfl⟩
        apply NDr.rd [0]
        · intro fH TH
          exact ⟨rfl, rfl⟩
        apply NDr.pure
        · exact NB.det
        refine NP.mk (by kernel_rfl) ?_
        refine NB.mk (fun hk3 => ?_) (fun hk3 => ?_)
        · refine NRet.boolE (b := true) ?_ (NRet.mk [] rfl ⟨.refl _, rfl⟩)
          grind
        refine NW.i64 (by omega) (by omega) ?_
        exact Canon.mk [0] rfl ⟨D.length - (i + 1), by omega, i + 1, by omega, rfl, f2 (decide_eq_false hp), rfl, rfl⟩
    · have : i = D.length := by omega
      subst this
      rw [List.take_length] at ht
      rw [decide_eq_false fun h => by have := ht d h; simp at this]
      refine ND.no (by (simp only [List.length_map, List.length_append, List.length_replicate, List.length_cons, List.length_nil, List.length_take, List.length_drop]; omega)) ?_
      exact NRet.mk [] rfl ⟨.refl _, rfl⟩
theorem same9_walk (a b : List Item) (ha : a.length ≤ 2 ^ 38) : ACalls Try.prog Nm.ref09_Same [itemsA a, itemsA b] [] (.bool (decide (a = b))) [] := by
  refine ACalls_of tab (dr_snd tab mixed) Nm.ref09_Same_h rfl (by kernel_rfl) (Nat.le_of_ble_eq_true rfl) rfl ?_
  by_cases hl : a.length = b.length
  · refine ND.yes (by (simp only [List.length_map, List.length_append, List.length_replicate, List.length_cons, List.length_nil, List.length_take, List.length_drop]; omega)) ?_
    refine NLoop.mk [] [0, 1, 5] (fun m vs H => ∃ i, i ≤ a.length ∧ m = a.length - i ∧ a.take i = b.take i ∧ H = [] ∧ vs = [itemsA a, itemsA b, i64 i]) rfl ?_ ?_
    · exact Canon.mk [] rfl ⟨a.length, 0, Nat.zero_le _, rfl, rfl, rfl, rfl⟩
    · rintro m vs H ⟨i, hi, rfl, ht, rfl, rfl⟩
      by_cases hil : i < a.length
      · have hib : i < b.length := by omega
        refine ND.yes (by (simp only [List.length_map, List.length_append, List.length_replicate, List.length_cons, List.length_nil, List.length_take, List.length_drop]; omega)) ?_
        refine NP.mk (by kernel_rfl) ?_
        apply NDr.pure
        · exact ⟨rfl, rfl⟩
        apply NDr.pure
        · exact ⟨rfl, rfl⟩
        apply NDr.pure
        · refine NP.mk (by omega) ?_
          refine NG.mapN (by omega) ?_
          exact ⟨rfl, rfl⟩
        apply NDr.pure
        · exact ⟨rfl, rfl⟩
        apply NDr.pure
        · exact ⟨rfl, rfl⟩
        apply NDr.pure
        · exact ⟨rfl, rfl⟩
        apply NDr.pure
        · refine NP.mk (by omega) ?_
          refine NG.mapN (by omega) ?_
          exact ⟨rfl, rfl⟩
        apply NDr.pure
        · exact ⟨rfl, rfl⟩
        apply NDr.pure
        · exact NB.det'
        refine NP.mk (by kernel_rfl) ?_
        refine NB.mk (fun hk3 => ?_) (fun hk3 => ?_)
        · refine NRet.boolE (b := false) ?_ (NRet.mk [] rfl ⟨.refl _, rfl⟩)
          grind
        refine NW.i64 (by omega) (by omega) ?_
        exact Canon.mk [] rfl ⟨a.length - (i + 1), by omega, i + 1, by omega, rfl, take_eq_next ht hil hib (by grind [Item.ext_iff, Dot.ext_iff]), rfl, rfl⟩
      · have : i = a.length := by omega
        subst this
        rw [decide_eq_true (take_eq_end hl ht)]
        refine ND.no (by (simp only [List.length_map, List.length_append, List.length_replicate, List.length_cons, List.length_nil, List.length_take, List.length_drop]; omega)) ?_
        exact NRet.mk [] rfl ⟨.refl _, rfl⟩
  · rw [decide_eq_false fun e => hl (by rw [e])]
    refine ND.no (by (simp only [List.length_map, List.length_append, List.length_replicate, List.length_cons, List.length_nil, List.length_take, List.length_drop]; omega)) ?_
    exact NRet.mk [] rfl ⟨.refl _, rfl⟩
end Go.Bv
namespace Go.Bv
set_option linter.unusedSimpArgs false
set_option linter.unusedVariables false
set_option maxHeartbeats 4000000
set_option maxRecDepth 20000
open Go Go.Proofs
def smS (s : Store) : Prop := s.heard.length ≤ 2 ^ 38 ∧ s.items.length ≤ 50000 ∧ ∀ x ∈ s.items, smItem x
theorem storeDo_walk (s : Store) (t : Txn) (hs : smS s) (ht : smTxn t) (hn : t.effs.length ≤ 100) : ACalls Try.prog Nm.store_Do [storeA s, txnA t] [] (if formed t = true then if hasB s.heard t.node t.seq = true then .tup [storeA ⟨[], []⟩, i64 8] else if ready s.heard t = true then .tup [storeA (doT s t), i64 0] else .tup [storeA ⟨[], []⟩, i64 9] else .tup [storeA ⟨[], []⟩, i64 2]) [] := by
  refine ACalls_of tab (dr_snd tab mixed) Nm.store_Do_h rfl (by kernel_rfl) (Nat.le_of_ble_eq_true rfl) rfl ?_
  obtain ⟨h1, h2, h3⟩ := hs
  have k1 := formed_walk t ht
  have k2 := dot_walk t
  have k3 := vecHas_walk s.heard t.node t.seq 0 (by omega)
  have k4 := ready_walk s.heard t h1 (by have := ht.2.1; omega) ht.1
  have k5 := next_walk s.heard t (by omega)
  have k6 := do_walk s.items t.node t.seq t.effs h2 (by omega) ht.2.2.2
  obtain ⟨r, hr⟩ : ∃ r, r = (if formed t = true then if hasB s.heard t.node t.seq = true then AV.tup [storeA ⟨[], []⟩, i64 8] else if ready s.heard t = true then .tup [storeA (doT s t), i64 0] else .tup [storeA ⟨[], []⟩, i64 9] else .tup [storeA ⟨[], []⟩, i64 2]) := ⟨_, rfl⟩
  rw [← hr]
  cases e1 : formed t with
  | false =>
    rw [e1] at k1 hr
    rw [if_neg (by simp)] at hr
    subst hr
    refine NCall.call (k1) rfl rfl ?_
    exact NRet.mk [] rfl ⟨by repeat (first | exact LeA.refl _ | exact LeA.nils _ | refine LeA.agg ?_ | refine LeA.tup ?_ | exact LeAs.nil | refine LeAs.cons ?_ ?_), rfl⟩
  | true =>
    rw [e1] at k1 hr
    rw [if_pos rfl] at hr
    cases e2 : hasB s.heard t.node t.seq with
    | true =>
      rw [e2, if_pos rfl] at hr
      unfold hasB at e2
      rw [e2] at k3
      subst hr
      refine NCall.call (k1) rfl rfl ?_
      refine NP.mk (by kernel_rfl) ?_
      apply NDr.rd [0]
      · intro fH TH
        exact ⟨rfl, rfl⟩
      apply NDr.rd [0]
      · intro fH TH
        exact ⟨rfl, rfl⟩
      apply NDr.rd [1]
      · intro fH TH
        exact ⟨rfl, rfl⟩
      apply NDr.pure
      · refine NCall.call (k2) rfl rfl ?_
        exact ⟨rfl, rfl⟩
      apply NDr.pure
      · refine NCall.call (k3) rfl rfl ?_
        exact ⟨rfl, rfl⟩
      apply NDr.pure
      · exact ⟨rfl, rfl⟩
      refine NP.mk (by kernel_rfl) ?_
      exact NRet.mk [] rfl ⟨by repeat (first | exact LeA.refl _ | exact LeA.nils _ | refine LeA.agg ?_ | refine LeA.tup ?_ | exact LeAs.nil | refine LeAs.cons ?_ ?_), rfl⟩
    | false =>
      rw [e2, if_neg (by simp)] at hr
      unfold hasB at e2
      rw [e2] at k3
      cases e3 : ready s.heard t with
      | false =>
        rw [e3] at k4 hr
        rw [if_neg (by simp)] at hr
        subst hr
        refine NCall.call (k1) rfl rfl ?_
        refine NP.mk (by kernel_rfl) ?_
        apply NDr.rd [0]
        · intro fH TH
          exact ⟨rfl, rfl⟩
        apply NDr.rd [0]
        · intro fH TH
          exact ⟨rfl, rfl⟩
        apply NDr.rd [1]
        · intro fH TH
          exact ⟨rfl, rfl⟩
        apply NDr.pure
        · refine NCall.call (k2) rfl rfl ?_
          exact ⟨rfl, rfl⟩
        apply NDr.pure
        · refine NCall.call (k3) rfl rfl ?_
          exact ⟨rfl, rfl⟩
        apply NDr.pure
        · exact ⟨rfl, rfl⟩
        refine NP.mk (by kernel_rfl) ?_
        refine NCall.call (k4) rfl rfl ?_
        exact NRet.mk [] rfl ⟨by repeat (first | exact LeA.refl _ | exact LeA.nils _ | refine LeA.agg ?_ | refine LeA.tup ?_ | exact LeAs.nil | refine LeAs.cons ?_ ?_), rfl⟩
      | true =>
        rw [e3] at k4 hr
        rw [if_pos rfl] at hr
        subst hr
        refine NCall.call (k1) rfl rfl ?_
        refine NP.mk (by kernel_rfl) ?_
        apply NDr.rd [0]
        · intro fH TH
          exact ⟨rfl, rfl⟩
        apply NDr.rd [0]
        · intro fH TH
          exact ⟨rfl, rfl⟩
        apply NDr.rd [1]
        · intro fH TH
          exact ⟨rfl, rfl⟩
        apply NDr.pure
        · refine NCall.call (k2) rfl rfl ?_
          exact ⟨rfl, rfl⟩
        apply NDr.pure
        · refine NCall.call (k3) rfl rfl ?_
          exact ⟨rfl, rfl⟩
        apply NDr.pure
        · exact ⟨rfl, rfl⟩
        refine NP.mk (by kernel_rfl) ?_
        refine NCall.call (k4) rfl rfl ?_
        refine NP.mk (by kernel_rfl) ?_
        apply NDr.rd [0]
        · intro fH TH
          exact ⟨rfl, rfl⟩
        apply NDr.rd [0]
        · intro fH TH
          exact ⟨rfl, rfl⟩
        apply NDr.rd [1]
        · intro fH TH
          exact ⟨rfl, rfl⟩
        apply NDr.pure
        · refine NCall.call (k5) rfl rfl ?_
          exact ⟨rfl, rfl⟩
        apply NDr.rd [0]
        · intro fH TH
          exact ⟨rfl, rfl⟩
        apply NDr.rd [0]
        · intro fH TH
          exact ⟨rfl, rfl⟩
        apply NDr.rd [1]
        · intro fH TH
          exact ⟨rfl, rfl⟩
        apply NDr.rd [1]
        · intro fH TH
          exact ⟨rfl, rfl⟩
        apply NDr.rd [1]
        · intro fH TH
          exact ⟨rfl, rfl⟩
        apply NDr.rd [1]
        · intro fH TH
          exact ⟨rfl, rfl⟩
        apply NDr.rd [1]
        · intro fH TH
          exact ⟨rfl, rfl⟩
        apply NDr.rd [1]
        · intro fH TH
          exact ⟨rfl, rfl⟩
        apply NDr.pure
        · refine NCall.call (k6) rfl rfl ?_
          exact ⟨rfl, rfl⟩
        apply NDr.pure
        · exact ⟨rfl, rfl⟩
        apply NDr.efw [2]
        · exact ⟨rfl, rfl⟩
        · repeat (first | exact True.intro | refine ⟨by first | exact rfl | exact True.intro, ?_⟩)
        apply NDr.pure
        · exact ⟨rfl, rfl⟩
        refine NP.mk (by kernel_rfl) ?_
        exact NRet.mk [] rfl ⟨.refl _, rfl⟩
theorem cloneI_list (l : List Item) (hl : l.length ≤ 2 ^ 38) : ACalls Try.prog Nm.slices_Clone_api_Item_api_Item [itemsA l] [] (itemsA l) [] := (cloneI_walk l hl).drop (dropL (by simp))
theorem chain_at : ∀ {c : List Txn} {v : List Int} {i : Nat}, chain v c = true → ∀ h : i < c.length, ready (nexts v (c.take i)) c[i] = true
  | [], _, _, _, h => by simp at h
  | t :: c, v, 0, hc, _ => ((chain_cons v t c).1 hc).1
  | t :: c, v, i + 1, hc, h => by
    have := chain_at ((chain_cons v t c).1 hc).2 (i := i) (by simpa using h)
    simpa [nexts_cons] using this
theorem ready_old {v : List Int} {t : Txn} (h : ready v t = true) : hasB v t.node t.seq = false := by
  obtain ⟨_, h2, _⟩ := (ready_iff v t).1 h
  unfold hasB
  exact decide_eq_false (by omega)
theorem foldl_heard (l : List Txn) (s : Store) : (l.foldl doT s).heard = nexts s.heard l := by rw [foldl_doT]
theorem foldl_snoc' {α β : Type} (f : β → α → β) (b : β) {l : List α} {i : Nat} (h : i < l.length) : (l.take (i + 1)).foldl f b = f ((l.take i).foldl f b) l[i] := by
  rw [List.take_succ_eq_append_getElem h, List.foldl_append]; rfl
theorem do_mem {n s : Int} {es : List Eff} {X : List Item} {x : Item} (h : x ∈ doL n s X es) : x ∈ X ∨ ∃ e ∈ es, x = made n s e := by
  by_cases he : es = []
  · subst he; exact .inl h
  · rw [doL_raw he] at h
    rcases (mem_rawL es X x).1 (norm_mem h) with ⟨h, _⟩ | h
    · exact .inl h
    · obtain ⟨e, he, _, rfl⟩ := madeBy_ex h
      exact .inr ⟨e, he, rfl⟩
theorem done_sm : ∀ (l : List Txn) {s : Store}, (s.heard.length ≤ 2 ^ 38 ∧ s.items.length ≤ 40000 ∧ ∀ x ∈ s.items, smItem x) → (∀ t ∈ l, formed t = true) → (∀ t ∈ l, smTxn t) → l.length ≤ 1000 → smS (l.foldl doT s) := by
  have : ∀ (l : List Txn) {s : Store}, s.heard.length ≤ 2 ^ 38 → s.items.length + 8 * l.length ≤ 50000 → (∀ x ∈ s.items, smItem x) → (∀ t ∈ l, formed t = true) → (∀ t ∈ l, smTxn t) → smS (l.foldl doT s) := by
    intro l
    induction l with
    | nil => intro s h1 h2 h3 _ _; exact ⟨h1, by simpa using h2, h3⟩
    | cons t l ih =>
      intro s h1 h2 h3 hf hx
      rw [List.length_cons] at h2
      have ht := formed_len (hf t (List.mem_cons_self ..))
      have hd := doL_len (n := t.node) (s := t.seq) t.effs s.items
      rw [List.foldl_cons]
      refine ih (s := doT s t) ?_ ?_ ?_ (fun t' h' => hf t' (List.mem_cons_of_mem _ h')) (fun t' h' => hx t' (List.mem_cons_of_mem _ h'))
      · have := next_len s.heard t
        show (next s.heard t).length ≤ _
        omega
      · show (doL t.node t.seq s.items t.effs).length + _ ≤ _
        omega
      · intro x hx'
        rcases do_mem (show x ∈ doL t.node t.seq s.items t.effs from hx') with h | ⟨e, he, rfl⟩
        · exact h3 x h
        · exact smMade ((hx t (List.mem_cons_self ..)).2.2.2 e he)
  exact fun l s h hf hx hl => this l h.1 (by omega) h.2.2 hf hx
theorem storeAll_walk (s : Store) (l : List Txn) (hs : smS s) (hl : l.length ≤ 1000) (hx : ∀ t ∈ l, smTxn t) (hi : s.items.length ≤ 40000) : ACalls Try.prog Nm.store_All [storeA s, txnsA l] [] (.tup [storeA (allS s l).1, txnsA (allS s l).2]) [] := by
  refine ACalls_of tab (dr_snd tab mixed) Nm.store_All_h rfl (by kernel_rfl) (Nat.le_of_ble_eq_true rfl) rfl ?_
  obtain ⟨h1, h2, h3⟩ := hs
  have k1 := cloneV_list s.heard (by omega)
  have k2 := cloneI_list s.items (by omega)
  refine NP.mk (by kernel_rfl) ?_
  apply NDr.rd [0]
  · intro fH TH
    exact ⟨rfl, rfl⟩
  apply NDr.rd [0]
  · intro fH TH
    exact ⟨rfl, rfl⟩
  apply NDr.pure
  · refine NCall.call (k1) rfl rfl ?_
    exact ⟨rfl, rfl⟩
  apply NDr.rd [0]
  · intro fH TH
    exact ⟨rfl, rfl⟩
  apply NDr.rd [0]
  · intro fH TH
    exact ⟨rfl, rfl⟩
  apply NDr.pure
  · refine NCall.call (k2) rfl rfl ?_
    exact ⟨rfl, rfl⟩
  apply NDr.pure
  · exact ⟨rfl, rfl⟩
  apply NDr.rd [0]
  · intro fH TH
    exact ⟨rfl, rfl⟩
  refine NP.mk (by kernel_rfl) ?_
  refine NLoop.mk [(6, .agg 4)] [2, 4, 6, 20, 21, 22] (fun m vs H => ∃ i, i ≤ l.length ∧ m = l.length - i ∧ H = [.row .box (.agg 2) [.agg (storeC s)], .row .box (.agg 2) [.agg [.nils, .nils]], .row .vrow (.agg 4) (((l.take i).filter okT).map txnA)] ∧
    vs = [.ptr 0 0 0, .ptr 1 0 0, .own 2 0 (((l.take i).filter okT).map txnA).length, txnsA l, i64 l.length, i64 i]) rfl ?_ ?_
  · exact Canon.mk [0, 1, 2] rfl ⟨l.length, 0, Nat.zero_le _, rfl, rfl, by simp [txnsA, i64]⟩
  rintro m vs H ⟨i, hil, rfl, rfl, rfl⟩
  by_cases hil : i < l.length
  · have hsn := filter_take okT l hil
    have hfl : ((l.take i).filter okT).length ≤ i := Nat.le_trans (List.length_filter_le _ _) (by rw [List.length_take]; omega)
    have k3 := formed_walk l[i] (hx _ (List.getElem_mem hil))
    generalize (l.take i).filter okT = F at *
    cases hp : formed l[i] with
    | true =>
      rw [show okT l[i] = true from hp, if_pos rfl] at hsn
      rw [hp] at k3
      refine ND.yes (by omega) ?_
      refine NP.mk (by omega) ?_
      refine NG.mapN (by omega) ?_
      refine NCall.call (k3) rfl rfl ?_
      refine NFz.own ?_
      refine NApp.endA rfl (by simp; omega) ?_
      refine NW.i64 (by omega) (by omega) ?_
      exact Canon.mk [0, 1, 4] rfl ⟨l.length - (i + 1), by omega, i + 1, by omega, rfl, by rw [hsn, List.map_append]; rfl, by rw [hsn, List.map_append]; rfl⟩
    | false =>
      rw [show okT l[i] = false from hp, if_neg (by simp)] at hsn
      rw [hp] at k3
      refine ND.yes (by omega) ?_
      refine NP.mk (by omega) ?_
      refine NG.mapN (by omega) ?_
      refine NCall.call (k3) rfl rfl ?_
      refine NW.i64 (by omega) (by omega) ?_
      exact Canon.mk [0, 1, 2] rfl ⟨l.length - (i + 1), by omega, i + 1, by omega, rfl, by rw [hsn] <;> rfl, by rw [hsn] <;> rfl⟩
  have : i = l.length := by omega
  subst this
  rw [List.take_length]
  have hF : ∀ t ∈ l.filter okT, smTxn t := fun t ht => hx t (List.mem_filter.1 ht).1
  have hFl := List.length_filter_le okT l
  have k4 := take_walk s.heard (l.filter okT) (by omega) (by omega) hF
  refine ND.no (by omega) ?_
  refine NCall.eq (by simp only [List.length_map] <;> exact rfl) ?_
  refine NCall.frzAllN [2] (k4) (.cons (.same _) (.cons (.own (by simp) rfl (by simp) (by simp) (by rw [List.drop_zero, List.take_of_length_le (by simp)])) .nil)) rfl rfl rfl ?_
  have hc := takeT_chain s.heard (l.filter okT)
  have hcf := done_formed (v := s.heard) (l := l)
  have hcl := takeT_len s.heard (l.filter okT)
  have hcx : ∀ t ∈ (takeT s.heard (l.filter okT)).1, smTxn t := fun t ht => hF t (takeT_mem ht)
  have hall : allS s l = ((takeT s.heard (l.filter okT)).1.foldl doT s, (takeT s.heard (l.filter okT)).1) := rfl
  rw [hall]
  generalize (takeT s.heard (l.filter okT)).1 = c at *
  refine NLoop.mk [] [2, 4, 9, 40, 41, 42] (fun m vs H => ∃ i, i ≤ c.length ∧ m = c.length - i ∧ H = [.row .box (.agg 2) [.agg (storeC ((c.take i).foldl doT s))], .row .box (.agg 2) [.agg [.nils, .nils]]] ∧
    vs = [.ptr 0 0 0, .ptr 1 0 0, txnsA c, txnsA c, i64 c.length, i64 i]) rfl ?_ ?_
  · exact Canon.mk [0, 1] rfl ⟨c.length, 0, Nat.zero_le _, rfl, rfl, by simp [txnsA, i64]⟩
  rintro m vs H ⟨i, hil, rfl, rfl, rfl⟩
  by_cases hil : i < c.length
  · have hsn := foldl_snoc' doT s hil
    have hsm := done_sm (c.take i) ⟨h1, hi, h3⟩ (fun t ht => hcf t (List.mem_of_mem_take ht)) (fun t ht => hcx t (List.mem_of_mem_take ht)) (by rw [List.length_take]; omega)
    have hr := chain_at hc hil
    rw [← foldl_heard] at hr
    have hf := hcf _ (List.getElem_mem hil)
    have k5 := storeDo_walk ((c.take i).foldl doT s) c[i] hsm (hcx _ (List.getElem_mem hil)) (by have := formed_len hf; omega)
    rw [if_pos hf, if_neg (by rw [ready_old hr]; simp), if_pos hr] at k5
    rw [← hsn] at k5
    generalize (c.take i).foldl doT s = u at *
    obtain ⟨w, hw⟩ : ∃ w, w = (c.take (i + 1)).foldl doT s := ⟨_, rfl⟩
    rw [← hw] at k5
    refine ND.yes (by omega) ?_
    refine NP.mk (by omega) ?_
    refine NG.mapN (by omega) ?_
    refine NCall.call (k5) rfl rfl ?_
    refine NW.i64 (by omega) (by omega) ?_
    exact Canon.mk [0, 1] rfl ⟨c.length - (i + 1), by omega, i + 1, by omega, rfl, by rw [← hw] <;> rfl, rfl⟩
  have : i = c.length := by omega
  subst this
  rw [List.take_length]
  refine ND.no (by omega) ?_
  exact NRet.mk [] rfl ⟨.refl _, rfl⟩
end Go.Bv
namespace Go.Bv
set_option linter.unusedSimpArgs false
set_option linter.unusedVariables false
set_option maxHeartbeats 4000000
open Go Go.Proofs
theorem shortT_sm {l : List Txn} (h : shortT l = true) (ho : ∀ t ∈ l, okTxn t) : l.length ≤ 24 ∧ ∀ t ∈ l, smTxn t := by
  unfold shortT at h
  rw [Bool.and_eq_true, List.all_eq_true] at h
  refine ⟨of_decide_eq_true h.1, fun t ht => ?_⟩
  have := h.2 t ht
  rw [Bool.and_eq_true] at this
  obtain ⟨h1, h2⟩ := this
  have h1 := of_decide_eq_true h1
  unfold shortEs at h2
  rw [Bool.and_eq_true, List.all_eq_true] at h2
  have h3 := of_decide_eq_true h2.1
  refine ⟨(ho t ht).2.1, by omega, by omega, fun e he => ?_⟩
  have := of_decide_eq_true (h2.2 e he)
  exact ⟨by omega, by omega, by omega, by omega⟩
end Go.Bv
namespace Go.Bv
set_option linter.unusedSimpArgs false
set_option linter.unusedVariables false
set_option maxHeartbeats 4000000
open Go Go.Proofs
def rot (l : List Txn) (r : Nat) : List Txn := l.drop r ++ l.take r
theorem rot_perm (l : List Txn) (r : Nat) : (rot l r).reverse.Perm l := by
  refine (List.reverse_perm _).trans ?_
  unfold rot
  refine List.perm_append_comm.trans ?_
  rw [List.take_append_drop]
theorem rot_len {l : List Txn} {r : Nat} : (rot l r).reverse.length = l.length := (rot_perm l r).length_eq
theorem rot_get {l : List Txn} {r q : Nat} (hr : r < l.length) (hq : q < l.length) : (rot l r).reverse[q]'(by rw [rot_len]; exact hq) = l[(l.length - 1 - q + r) % l.length]'(Nat.mod_lt _ (by omega)) := by
  rw [List.getElem_reverse]
  have hl : (rot l r).length = l.length := by have := rot_len (l := l) (r := r); simpa using this
  unfold rot
  rw [List.getElem_append]
  split
  · rename_i h
    rw [List.getElem_drop]
    simp only [List.length_drop, List.length_append, List.length_take] at h ⊢
    congr 1
    rw [Nat.mod_eq_of_lt (by omega)]; omega
  · rename_i h
    rw [List.getElem_take]
    simp only [List.length_drop, List.length_append, List.length_take] at h ⊢
    congr 1
    rw [Nat.mod_eq_sub_mod (by omega), Nat.mod_eq_of_lt (by omega)]; omega
end Go.Bv
namespace Go.Bv
set_option linter.unusedSimpArgs false
set_option linter.unusedVariables false
set_option maxHeartbeats 4000000
set_option maxRecDepth 20000
open Go Go.Proofs
theorem shortT_effs {l : List Txn} (h : shortT l = true) : ∀ t ∈ l, t.effs.length ≤ 20 := fun t ht => by
  unfold shortT at h
  rw [Bool.and_eq_true, List.all_eq_true] at h
  have := h.2 t ht
  rw [Bool.and_eq_true] at this
  have h2 := this.2
  unfold shortEs at h2
  rw [Bool.and_eq_true] at h2
  exact of_decide_eq_true h2.1
end Go.Bv
namespace Go.Bv
set_option linter.unusedSimpArgs false
set_option linter.unusedVariables false
set_option maxHeartbeats 4000000
set_option maxRecDepth 20000
open Go Go.Proofs
def a26 : Txn := ⟨0, 1, [], [⟨0, [97], [], 2, [120], 0, []⟩]⟩
def b26 : Txn := ⟨1, 1, [1], [⟨0, [97], [], 2, [121], 0, [⟨0, 1, 0⟩]⟩]⟩
def i26 : Item := ⟨[97], [], 2, [121], 0, ⟨1, 1, 0⟩⟩
theorem means26 : means [b26, a26] = [i26] := by
  unfold means
  rw [show madeL' [b26, a26] = [i26] by kernel_rfl]
  exact norm_self (by simp) (by simp)
theorem awake26 : ACalls Try.prog Nm.law26_awake [] [] (.bool true) [] := by
  refine ACalls_of tab (dr_snd tab mixed) Nm.law26_awake_h rfl (by kernel_rfl) (Nat.le_of_ble_eq_true rfl) rfl ?_
  have h1 := means_walk [b26, a26] (by simp) (by simp [smTxn, okInt, a26, b26, smEff]) (by simp [a26, b26])
  rw [means26] at h1
  have h2 := closed_walk [b26, a26] (by simp) (by simp [smTxn, okInt, a26, b26, smEff])
  rw [show closedB [b26, a26] = true by kernel_rfl] at h2
  have h3 := closed_walk [b26] (by simp) (by simp [smTxn, okInt, b26, smEff])
  rw [show closedB [b26] = false by kernel_rfl] at h3
  refine NCall.call (ACalls.args (h1) (by repeat (first | exact LeA.refl _ | exact LeA.nils _ | refine LeA.agg ?_ | refine LeA.list _ ?_ | exact LeAs.nil | refine LeAs.cons ?_ ?_))) rfl rfl ?_
  refine ND.yes (by rfl) ?_
  refine NP.mk (by omega) ?_
  refine NG.mapN (by (simp only [List.length_map, List.length_append, List.length_replicate, List.length_cons, List.length_nil, List.length_take, List.length_drop]; omega)) ?_
  refine ND.yes (by rfl) ?_
  refine NCall.call (ACalls.args (h2) (by repeat (first | exact LeA.refl _ | exact LeA.nils _ | refine LeA.agg ?_ | refine LeA.list _ ?_ | exact LeAs.nil | refine LeAs.cons ?_ ?_))) rfl rfl ?_
  refine NCall.call (h3) rfl rfl ?_
  exact NRet.mk [] rfl ⟨.refl _, rfl⟩
theorem means_len {l : List Txn} (h : ∀ t ∈ l, t.effs.length ≤ 100) : (means l).length ≤ 100 * l.length := by
  have h1 := norm_len (madeL' l)
  have h2 := madeG_len (dropsT l) l h
  rw [show madeG (dropsT l) l = madeL' l from rfl] at h2
  unfold means
  omega
theorem heardP_len (l : List Txn) : (heardP l).length ≤ 8 := by
  unfold heardP
  have := trim_len (tab0 (fun i => (runT l (i : Int) : Int)) 8)
  rw [tab0_len] at this; exact this
theorem eq7_self (v : List Int) (h : v.length ≤ 2 ^ 40) : ACalls Try.prog Nm.ref07_Equal [ints v, ints v] [] (.bool true) [] := by
  have := equal7_walk v v h
  rwa [decide_eq_true rfl] at this
theorem same9_self (l : List Item) (h : l.length ≤ 2 ^ 38) : ACalls Try.prog Nm.ref09_Same [itemsA l, itemsA l] [] (.bool true) [] := by
  have := same9_walk l l h
  rwa [decide_eq_true rfl] at this
theorem specStore_walk (l : List Txn) (hl : l.length ≤ reachBytes) (hx : ∀ x ∈ l, okTxn x) : ACalls Try.prog Nm.law26_SpecStore [txnsA l] [] (.bool true) [] := by
  refine ACalls_of tab (dr_snd tab mixed) Nm.law26_SpecStore_h rfl (by kernel_rfl) (Nat.le_of_ble_eq_true rfl) rfl ?_
  have hl' := reach_lt hl
  have s1 := short13_walk l (by omega) hx
  cases h1 : shortT l with
  | false =>
    rw [h1] at s1
    refine NCall.call (awake26) rfl rfl ?_
    refine NCall.call (s1) rfl rfl ?_
    exact NRet.mk [] rfl ⟨.refl _, rfl⟩
  | true =>
  rw [h1] at s1
  obtain ⟨c1, c2⟩ := shortT_sm h1 hx
  have c3 := shortT_effs h1
  have s2 := closed_walk l (by omega) c2
  cases h2 : closedB l with
  | false =>
    rw [h2] at s2
    refine NCall.call (awake26) rfl rfl ?_
    refine NCall.call (s1) rfl rfl ?_
    refine NCall.call (s2) rfl rfl ?_
    exact NRet.mk [] rfl ⟨.refl _, rfl⟩
  | true =>
  rw [h2] at s2
  obtain ⟨e1, e2⟩ := spec_store h2
  have k1 := storeAll_walk ⟨[], []⟩ l ⟨by simp, by simp, by simp⟩ (by omega) c2 (by simp)
  rw [e2] at k1
  have k2 := heard_walk l (by omega)
  have k3 := means_walk l (by omega) c2 (fun t ht => by have := c3 t ht; omega)
  have k4 := eq7_self (heardP l) (by have := heardP_len l; omega)
  have k5 := same9_self (means l) (by have := means_len (l := l) (fun t ht => by have := c3 t ht; omega); omega)
  generalize (allS ⟨[], []⟩ l).2 = done at *
  generalize heardP l = hp at *
  generalize means l = ml at *
  refine NCall.call (awake26) rfl rfl ?_
  refine NCall.call (s1) rfl rfl ?_
  refine NCall.call (s2) rfl rfl ?_
  refine NCall.call (ACalls.args (k1) (by repeat (first | exact LeA.refl _ | exact LeA.nils _ | refine LeA.agg ?_ | refine LeA.list _ ?_ | exact LeAs.nil | refine LeAs.cons ?_ ?_))) rfl rfl ?_
  refine NP.mk (by kernel_rfl) ?_
  apply NDr.pure
  · exact ⟨rfl, rfl⟩
  apply NDr.pure
  · exact ⟨rfl, rfl⟩
  apply NDr.pure
  · exact ⟨rfl, rfl⟩
  apply NDr.pure
  · exact ⟨rfl, rfl⟩
  apply NDr.pure
  · refine ND.yes (by (simp only [List.length_map, List.length_append, List.length_replicate, List.length_cons, List.length_nil, List.length_take, List.length_drop]; omega)) ?_
    exact ⟨rfl, rfl⟩
  apply NDr.pure
  · exact ⟨rfl, rfl⟩
  apply NDr.rd [0]
  · intro fH TH
    exact ⟨rfl, rfl⟩
  apply NDr.rd [0]
  · intro fH TH
    exact ⟨rfl, rfl⟩
  apply NDr.pure
  · exact ⟨rfl, rfl⟩
  apply NDr.pure
  · refine NCall.call (k2) rfl rfl ?_
    exact ⟨rfl, rfl⟩
  apply NDr.pure
  · refine NCall.call (k4) rfl rfl ?_
    exact ⟨rfl, rfl⟩
  apply NDr.pure
  · exact ⟨rfl, rfl⟩
  apply NDr.pure
  · exact ⟨rfl, rfl⟩
  apply NDr.rd [0]
  · intro fH TH
    exact ⟨rfl, rfl⟩
  apply NDr.rd [0]
  · intro fH TH
    exact ⟨rfl, rfl⟩
  apply NDr.pure
  · exact ⟨rfl, rfl⟩
  apply NDr.pure
  · refine NCall.call (k3) rfl rfl ?_
    exact ⟨rfl, rfl⟩
  apply NDr.pure
  · refine NCall.call (k5) rfl rfl ?_
    exact ⟨rfl, rfl⟩
  apply NDr.pure
  · exact ⟨rfl, rfl⟩
  apply NDr.pure
  · exact ⟨rfl, rfl⟩
  refine NP.mk (by kernel_rfl) ?_
  exact NRet.mk [] rfl ⟨.refl _, rfl⟩
theorem means_nil : means [] = [] := by unfold means madeL' norm isort; simp [nubF]
theorem specOne_walk (t : Txn) (ht : okTxn t) : ACalls Try.prog Nm.law26_SpecOne [txnA t] [] (.bool true) [] := by
  refine ACalls_of tab (dr_snd tab mixed) Nm.law26_SpecOne_h rfl (by kernel_rfl) (Nat.le_of_ble_eq_true rfl) rfl ?_
  have hx : ∀ x ∈ [t], okTxn x := by simpa using ht
  have s1 := short13_walk [t] (by simp) hx
  cases h1 : shortT [t] with
  | false =>
    rw [h1] at s1
    refine NCall.call (awake26) rfl rfl ?_
    refine NCall.call (s1) rfl rfl ?_
    exact NRet.mk [] rfl ⟨.refl _, rfl⟩
  | true =>
  rw [h1] at s1
  obtain ⟨c1, c2⟩ := shortT_sm h1 hx
  have c3 := shortT_effs h1
  have c4 := c2 t (by simp)
  have c5 := c3 t (by simp)
  have s2 := formed13_walk t c4
  cases h2 : formed t with
  | false =>
    rw [h2] at s2
    refine NCall.call (awake26) rfl rfl ?_
    refine NCall.call (s1) rfl rfl ?_
    refine NCall.call (s2) rfl rfl ?_
    exact NRet.mk [] rfl ⟨.refl _, rfl⟩
  | true =>
  rw [h2] at s2
  have k1 := means_walk [t] (by simp) c2 (fun t ht => by have := c3 t ht; omega)
  rw [means_one h2] at k1
  have k2 := do_walk [] t.node t.seq t.effs (by simp) (by omega) c4.2.2.2
  have k3 := means_walk [] (by simp) (by simp) (by simp)
  rw [means_nil] at k3
  have k4 := same9_self (doL t.node t.seq [] t.effs) (by have := doL_len (n := t.node) (s := t.seq) t.effs []; simp at this; omega)
  generalize doL t.node t.seq [] t.effs = o at *
  refine NCall.call (awake26) rfl rfl ?_
  refine NCall.call (s1) rfl rfl ?_
  refine NCall.call (s2) rfl rfl ?_
  refine NP.mk (by kernel_rfl) ?_
  apply NDr.rd [0]
  · intro fH TH
    exact ⟨rfl, rfl⟩
  apply NDr.pure
  · exact ⟨rfl, rfl⟩
  apply NDr.pure
  · refine NCall.call (k1) rfl rfl ?_
    exact ⟨rfl, rfl⟩
  apply NDr.rd [0]
  · intro fH TH
    exact ⟨rfl, rfl⟩
  apply NDr.rd [0]
  · intro fH TH
    exact ⟨rfl, rfl⟩
  apply NDr.rd [0]
  · intro fH TH
    exact ⟨rfl, rfl⟩
  apply NDr.rd [0]
  · intro fH TH
    exact ⟨rfl, rfl⟩
  apply NDr.rd [0]
  · intro fH TH
    exact ⟨rfl, rfl⟩
  apply NDr.rd [0]
  · intro fH TH
    exact ⟨rfl, rfl⟩
  apply NDr.pure
  · refine NCall.call (ACalls.args (k2) (by repeat (first | exact LeA.refl _ | exact LeA.nils _ | refine LeA.agg ?_ | refine LeA.list _ ?_ | exact LeAs.nil | refine LeAs.cons ?_ ?_))) rfl rfl ?_
    exact ⟨rfl, rfl⟩
  apply NDr.pure
  · refine NCall.call (k4) rfl rfl ?_
    exact ⟨rfl, rfl⟩
  apply NDr.pure
  · exact ⟨rfl, rfl⟩
  apply NDr.pure
  · refine NCall.call (ACalls.args (k3) (by repeat (first | exact LeA.refl _ | exact LeA.nils _ | refine LeA.agg ?_ | refine LeA.list _ ?_ | exact LeAs.nil | refine LeAs.cons ?_ ?_))) rfl rfl ?_
    exact ⟨rfl, rfl⟩
  apply NDr.pure
  · exact ⟨rfl, rfl⟩
  apply NDr.pure
  · refine ND.yes (by rfl) ?_
    exact ⟨rfl, rfl⟩
  apply NDr.pure
  · exact ⟨rfl, rfl⟩
  apply NDr.pure
  · exact ⟨rfl, rfl⟩
  refine NP.mk (by kernel_rfl) ?_
  exact NRet.mk [] rfl ⟨.refl _, rfl⟩
end Go.Bv
namespace Go.Bv
set_option linter.unusedSimpArgs false
set_option linter.unusedVariables false
set_option maxHeartbeats 4000000
set_option maxRecDepth 20000
open Go Go.Proofs
theorem specOrder_walk (l : List Txn) (turn : Int) (hl : l.length ≤ reachBytes) (hx : ∀ x ∈ l, okTxn x) : ACalls Try.prog Nm.law26_SpecOrder [txnsA l, i64 turn] [] (.bool true) [] := by
  refine ACalls_of tab (dr_snd tab mixed) Nm.law26_SpecOrder_h rfl (by kernel_rfl) (Nat.le_of_ble_eq_true rfl) rfl ?_
  have hl' := reach_lt hl
  have s1 := short13_walk l (by omega) hx
  cases h1 : shortT l with
  | false =>
    rw [h1] at s1
    refine NCall.call (awake26) rfl rfl ?_
    refine NCall.call (s1) rfl rfl ?_
    exact NRet.mk [] rfl ⟨.refl _, rfl⟩
  | true =>
  rw [h1] at s1
  obtain ⟨c1, c2⟩ := shortT_sm h1 hx
  have c3 := shortT_effs h1
  refine NCall.call (awake26) rfl rfl ?_
  refine NCall.call (s1) rfl rfl ?_
  refine NW.i64 (by (simp only [List.length_map, List.length_append, List.length_replicate, List.length_cons, List.length_nil, List.length_take, List.length_drop]; omega)) (by (simp only [List.length_map, List.length_append, List.length_replicate, List.length_cons, List.length_nil, List.length_take, List.length_drop]; omega)) ?_
  have hwl : IntKind.wrap .u64 ((l.map txnA).length : Int) = l.length := by rw [List.length_map, wrap_u64]; omega
  obtain ⟨R, hR⟩ : ∃ R, R = (IntKind.wrap .u64 turn).tmod (IntKind.wrap .u64 ((l.map txnA).length : Int)) := ⟨_, rfl⟩
  have hwt : 0 ≤ IntKind.wrap .u64 turn := by rw [wrap_u64]; omega
  have hR0 : 0 < l.length → 0 ≤ R ∧ R < l.length := fun h => by
    rw [hR, hwl]
    exact ⟨Int.tmod_nonneg _ hwt, Int.tmod_lt_of_pos _ (by omega)⟩
  refine NLoop.mk [(5, .agg 4)] [0, 1, 5, 6] (fun m vs H => ∃ (q : Nat) (i : Int), q ≤ l.length ∧ m = l.length - q ∧ i = (l.length : Int) - 1 - q ∧ H = [.row .vrow (.agg 4) (((rot l (R.toNat)).reverse.take q).map txnA)] ∧ vs = [txnsA l, i64 turn, .own 0 0 (((rot l (R.toNat)).reverse.take q).map txnA).length, i64 i]) rfl ?_ ?_
  · exact Canon.mk [0] rfl ⟨l.length, 0, _, Nat.zero_le _, rfl, rfl, by simp, by simp [ints, txnsA, i64]⟩
  · rintro m vs H ⟨q, i, hq, rfl, hi, rfl, rfl⟩
    have htl : ((rot l R.toNat).reverse.take q).length = q := by rw [List.length_take, rot_len]; omega
    by_cases hql : q < l.length
    · obtain ⟨hR1, hR2⟩ := hR0 (by omega)
      have hn : ((l.map txnA).length : Int) ≠ 0 := by rw [List.length_map]; omega
      have hidx : (Int.tmod (i + R) ((l.map txnA).length : Int)).toNat = (l.length - 1 - q + R.toNat) % l.length := by
        rw [List.length_map, show i + R = ((l.length - 1 - q + R.toNat : Nat) : Int) by omega, ← Int.ofNat_tmod, Int.toNat_natCast]
      rw [hR] at hR1 hR2 hidx
      have hidl : (Int.tmod (i + (IntKind.wrap .u64 turn).tmod (IntKind.wrap .u64 ((l.map txnA).length : Int))) ((l.map txnA).length : Int)).toNat < l.length := by rw [hidx]; exact Nat.mod_lt _ (by omega)
      have hnn : 0 ≤ Int.tmod (i + (IntKind.wrap .u64 turn).tmod (IntKind.wrap .u64 ((l.map txnA).length : Int))) ((l.map txnA).length : Int) := Int.tmod_nonneg _ (by omega)
      have hg := rot_get (l := l) (r := R.toNat) (q := q) (by rw [← hR] at hR1 hR2; omega) hql
      have hx2 : l[(Int.tmod (i + (IntKind.wrap .u64 turn).tmod (IntKind.wrap .u64 ((l.map txnA).length : Int))) ((l.map txnA).length : Int)).toNat] = (rot l R.toNat).reverse[q]'(by rw [rot_len]; exact hql) := by
        rw [hg]
        congr 1
        rw [hidx, ← hR]
      refine ND.yes (by omega) ?_
      refine NW.mk _ rfl ?_
      refine NW.mk _ rfl ?_
      refine NP.mk (by omega) ?_
      refine NW.i64 (by omega) (by omega) ?_
      refine NW.i64 (by omega) (by omega) ?_
      refine NP.mk (by omega) ?_
      refine NP.mk (by omega) ?_
      refine NG.map (by omega) ?_
      refine NFz.own ?_
      refine NApp.endA rfl (by simp; omega) ?_
      refine NW.i64 (by omega) (by omega) ?_
      refine Canon.mk [1] rfl ⟨l.length - (q + 1), by omega, q + 1, i - 1, by omega, rfl, ?_, ?_, ?_⟩
      rotate_left
      · rw [snocMap txnA _ (by rw [rot_len]; exact hql), ← hx2]; rfl
      · rw [snocMap txnA _ (by rw [rot_len]; exact hql), ← hx2]; rfl
      · omega
    · have hq' : q = l.length := by omega
      have hperm := rot_perm l R.toNat
      have e1 : (rot l R.toNat).reverse.take q = (rot l R.toNat).reverse := List.take_of_length_le (by rw [rot_len]; omega)
      rw [e1]
      have hol := rot_len (l := l) (r := R.toNat)
      generalize (rot l R.toNat).reverse = other at *
      have hm : ∀ t, t ∈ l ↔ t ∈ other ++ l.take (l.length / 2) := fun t => by
        rw [List.mem_append, hperm.mem_iff]
        exact ⟨.inl, fun h => h.elim id fun h => List.mem_of_mem_take h⟩
      have hmo : ∀ t ∈ other ++ l.take (l.length / 2), t ∈ l := fun t => (hm t).2
      have hlo : (other ++ l.take (l.length / 2)).length ≤ 48 := by rw [List.length_append, List.length_take]; omega
      have e2 := means_congr hm
      have e3 := heardP_congr hm
      have k1 := means_walk l (by omega) c2 (fun t ht => by have := c3 t ht; omega)
      have k2 := heard_walk l (by omega)
      have k3 := means_walk (other ++ l.take (l.length / 2)) (by omega) (fun t ht => c2 t (hmo t ht)) (fun t ht => by have := c3 t (hmo t ht); omega)
      have k4 := heard_walk (other ++ l.take (l.length / 2)) (by omega)
      rw [← e2] at k3
      rw [← e3] at k4
      have k5 := eq7_self (heardP l) (by have := heardP_len l; omega)
      have k6 := same9_self (means l) (by have := means_len (l := l) (fun t ht => by have := c3 t ht; omega); omega)
      have htk : txnsA (other ++ l.take (l.length / 2)) = .list (.agg 4) (other.map txnA ++ (l.map txnA).take (l.length / 2)) := by unfold txnsA; rw [List.map_append, List.map_take]
      rw [htk] at k3 k4
      generalize heardP l = hp at *
      generalize means l = ml at *
      refine ND.no (by omega) ?_
      refine NP.mk (by omega) ?_
      refine NW.i64 (by (simp; omega)) (by (simp; omega)) ?_
      refine NP.mk (by (simp; omega)) ?_
      refine NFz.own ?_
      refine NApp.endA rfl (by simp; omega) ?_
      refine NCall.call (k1) rfl rfl ?_
      refine NCall.eq (by simp only [List.length_map] <;> exact rfl) ?_
      refine NCall.roA [1] ?_
      refine NCall.eq (by simp only [List.length_map] <;> exact rfl) ?_
      rw [(tl0 _)]
      refine NCall.call (k3) rfl rfl ?_
      refine NCall.call (k6) rfl rfl ?_
      refine NCall.call (k2) rfl rfl ?_
      refine NCall.eq (by simp only [List.length_map] <;> exact rfl) ?_
      rw [(td0 _)]
      refine NCall.call (k4) rfl rfl ?_
      refine NCall.call (k5) rfl rfl ?_
      exact NRet.mk [] rfl ⟨.refl _, rfl⟩
end Go.Bv
namespace Go.Bv
open Go Go.Proofs
theorem ty_Vec {n : Nat} {xs : List AV} (h : TyC Try.prog n 26 xs) : ∃ a : List (Int), xs = [.list (.leaf) (a.map i64)] ∧ (a.length ≤ reachBytes ∧ ∀ y ∈ a, okInt y) := by
  obtain ⟨l, rfl, hl, hx⟩ := ty_slice h Try.underlying26
  have hs : shOf Try.prog 3 = .leaf := by exact shOf_int Try.underlying3
  have hb : 1 ≤ Try.prog.bytesOf 3 := Nat.le_of_ble_eq_true (by kernel_rfl)
  rw [hs] at hx ⊢
  have : ∀ x ∈ l, ∃ a : Int, x = i64 a ∧ okInt a := by
    intro x hxl
    obtain ⟨ys, hy, rfl⟩ := hx x hxl
    obtain ⟨a, e1, g1⟩ := ty_i64 hy Try.underlying3
    exact ⟨a, by rw [e1]; rfl, g1⟩
  obtain ⟨a, rfl, ha⟩ := list_of' this
  exact ⟨a, rfl, Nat.le_trans (by simpa using Nat.le_mul_of_pos_right (a.map i64).length hb) hl, ha⟩
theorem ty_Dot {n : Nat} {xs : List AV} (h : TyC Try.prog n 46 xs) : ∃ a : Dot, xs = dotC a ∧ okDot a := by
  obtain ⟨hl, hf⟩ := ty_struct h Try.underlying46
  have c3 : Try.prog.cellsOf 3 = 1 := by kernel_rfl
  have c46 : Try.prog.cellsOf 46 = 3 := by kernel_rfl
  rw [c46] at hl
  have h0 := hf _ (List.mem_cons_self ..)
  dsimp only at h0
  rw [c3] at h0
  obtain ⟨a0, e0, g0⟩ := ty_i64 h0 Try.underlying3
  have e0 := drop_more e0 rfl
  have h1 := hf _ (List.mem_cons_of_mem _ (List.mem_cons_self ..))
  dsimp only at h1
  rw [c3] at h1
  obtain ⟨a1, e1, g1⟩ := ty_i64 h1 Try.underlying3
  have e1 := drop_more e1 rfl
  have h2 := hf _ (List.mem_cons_of_mem _ (List.mem_cons_of_mem _ (List.mem_cons_self ..)))
  dsimp only at h2
  rw [c3] at h2
  obtain ⟨a2, e2, g2⟩ := ty_i64 h2 Try.underlying3
  have e2 := drop_more e2 rfl
  rw [drop_all' hl] at e2
  rw [e2] at e1
  rw [e1] at e0
  exact ⟨⟨a0, a1, a2⟩, by rw [List.drop_zero] at e0; rw [e0]; rfl, g0, g1, g2⟩
theorem ty_LDot {n : Nat} {xs : List AV} (h : TyC Try.prog n 41 xs) : ∃ a : List (Dot), xs = [.list (.agg 3) (a.map dotA)] ∧ (a.length ≤ reachBytes ∧ ∀ y ∈ a, okDot y) := by
  obtain ⟨l, rfl, hl, hx⟩ := ty_slice h Try.underlying41
  have hs : shOf Try.prog 46 = .agg 3 := by rw [shOf_struct Try.underlying46, show Try.prog.cellsOf 46 = 3 by kernel_rfl]
  have hb : 1 ≤ Try.prog.bytesOf 46 := Nat.le_of_ble_eq_true (by kernel_rfl)
  rw [hs] at hx ⊢
  have : ∀ x ∈ l, ∃ a : Dot, x = dotA a ∧ okDot a := by
    intro x hxl
    obtain ⟨ys, hy, rfl⟩ := hx x hxl
    obtain ⟨a, e1, g1⟩ := ty_Dot hy
    exact ⟨a, by rw [e1]; rfl, g1⟩
  obtain ⟨a, rfl, ha⟩ := list_of' this
  exact ⟨a, rfl, Nat.le_trans (by simpa using Nat.le_mul_of_pos_right (a.map dotA).length hb) hl, ha⟩
theorem ty_Eff {n : Nat} {xs : List AV} (h : TyC Try.prog n 43 xs) : ∃ a : Eff, xs = effC a ∧ okEff a := by
  obtain ⟨hl, hf⟩ := ty_struct h Try.underlying43
  have c3 : Try.prog.cellsOf 3 = 1 := by kernel_rfl
  have c9 : Try.prog.cellsOf 9 = 1 := by kernel_rfl
  have c2 : Try.prog.cellsOf 2 = 1 := by kernel_rfl
  have c41 : Try.prog.cellsOf 41 = 1 := by kernel_rfl
  have c43 : Try.prog.cellsOf 43 = 7 := by kernel_rfl
  rw [c43] at hl
  have h0 := hf _ (List.mem_cons_self ..)
  dsimp only at h0
  rw [c3] at h0
  obtain ⟨a0, e0, g0⟩ := ty_i64 h0 Try.underlying3
  have e0 := drop_more e0 rfl
  have h1 := hf _ (List.mem_cons_of_mem _ (List.mem_cons_self ..))
  dsimp only at h1
  rw [c9] at h1
  obtain ⟨a1, e1, g1⟩ := ty_str h1 Try.underlying9
  have e1 := drop_more e1 rfl
  have h2 := hf _ (List.mem_cons_of_mem _ (List.mem_cons_of_mem _ (List.mem_cons_self ..)))
  dsimp only at h2
  rw [c9] at h2
  obtain ⟨a2, e2, g2⟩ := ty_str h2 Try.underlying9
  have e2 := drop_more e2 rfl
  have h3 := hf _ (List.mem_cons_of_mem _ (List.mem_cons_of_mem _ (List.mem_cons_of_mem _ (List.mem_cons_self ..))))
  dsimp only at h3
  rw [c3] at h3
  obtain ⟨a3, e3, g3⟩ := ty_i64 h3 Try.underlying3
  have e3 := drop_more e3 rfl
  have h4 := hf _ (List.mem_cons_of_mem _ (List.mem_cons_of_mem _ (List.mem_cons_of_mem _ (List.mem_cons_of_mem _ (List.mem_cons_self ..)))))
  dsimp only at h4
  rw [c9] at h4
  obtain ⟨a4, e4, g4⟩ := ty_str h4 Try.underlying9
  have e4 := drop_more e4 rfl
  have h5 := hf _ (List.mem_cons_of_mem _ (List.mem_cons_of_mem _ (List.mem_cons_of_mem _ (List.mem_cons_of_mem _ (List.mem_cons_of_mem _ (List.mem_cons_self ..))))))
  dsimp only at h5
  rw [c2] at h5
  obtain ⟨a5, e5, g5⟩ := ty_i64 h5 Try.underlying2
  have e5 := drop_more e5 rfl
  have h6 := hf _ (List.mem_cons_of_mem _ (List.mem_cons_of_mem _ (List.mem_cons_of_mem _ (List.mem_cons_of_mem _ (List.mem_cons_of_mem _ (List.mem_cons_of_mem _ (List.mem_cons_self ..)))))))
  dsimp only at h6
  rw [c41] at h6
  obtain ⟨a6, e6, g6⟩ := ty_LDot h6
  have e6 := drop_more e6 rfl
  rw [drop_all' hl] at e6
  rw [e6] at e5
  rw [e5] at e4
  rw [e4] at e3
  rw [e3] at e2
  rw [e2] at e1
  rw [e1] at e0
  exact ⟨⟨a0, a1, a2, a3, a4, a5, a6⟩, by rw [List.drop_zero] at e0; rw [e0]; rfl, g0, g1, g2, g3, g4, g5, g6⟩
theorem ty_LEff {n : Nat} {xs : List AV} (h : TyC Try.prog n 27 xs) : ∃ a : List (Eff), xs = [.list (.agg 7) (a.map effA)] ∧ (a.length ≤ reachBytes ∧ ∀ y ∈ a, okEff y) := by
  obtain ⟨l, rfl, hl, hx⟩ := ty_slice h Try.underlying27
  have hs : shOf Try.prog 43 = .agg 7 := by rw [shOf_struct Try.underlying43, show Try.prog.cellsOf 43 = 7 by kernel_rfl]
  have hb : 1 ≤ Try.prog.bytesOf 43 := Nat.le_of_ble_eq_true (by kernel_rfl)
  rw [hs] at hx ⊢
  have : ∀ x ∈ l, ∃ a : Eff, x = effA a ∧ okEff a := by
    intro x hxl
    obtain ⟨ys, hy, rfl⟩ := hx x hxl
    obtain ⟨a, e1, g1⟩ := ty_Eff hy
    exact ⟨a, by rw [e1]; rfl, g1⟩
  obtain ⟨a, rfl, ha⟩ := list_of' this
  exact ⟨a, rfl, Nat.le_trans (by simpa using Nat.le_mul_of_pos_right (a.map effA).length hb) hl, ha⟩
theorem ty_Txn {n : Nat} {xs : List AV} (h : TyC Try.prog n 29 xs) : ∃ a : Txn, xs = txnC a ∧ okTxn a := by
  obtain ⟨hl, hf⟩ := ty_struct h Try.underlying29
  have c3 : Try.prog.cellsOf 3 = 1 := by kernel_rfl
  have c26 : Try.prog.cellsOf 26 = 1 := by kernel_rfl
  have c27 : Try.prog.cellsOf 27 = 1 := by kernel_rfl
  have c29 : Try.prog.cellsOf 29 = 4 := by kernel_rfl
  rw [c29] at hl
  have h0 := hf _ (List.mem_cons_self ..)
  dsimp only at h0
  rw [c3] at h0
  obtain ⟨a0, e0, g0⟩ := ty_i64 h0 Try.underlying3
  have e0 := drop_more e0 rfl
  have h1 := hf _ (List.mem_cons_of_mem _ (List.mem_cons_self ..))
  dsimp only at h1
  rw [c3] at h1
  obtain ⟨a1, e1, g1⟩ := ty_i64 h1 Try.underlying3
  have e1 := drop_more e1 rfl
  have h2 := hf _ (List.mem_cons_of_mem _ (List.mem_cons_of_mem _ (List.mem_cons_self ..)))
  dsimp only at h2
  rw [c26] at h2
  obtain ⟨a2, e2, g2⟩ := ty_Vec h2
  have e2 := drop_more e2 rfl
  have h3 := hf _ (List.mem_cons_of_mem _ (List.mem_cons_of_mem _ (List.mem_cons_of_mem _ (List.mem_cons_self ..))))
  dsimp only at h3
  rw [c27] at h3
  obtain ⟨a3, e3, g3⟩ := ty_LEff h3
  have e3 := drop_more e3 rfl
  rw [drop_all' hl] at e3
  rw [e3] at e2
  rw [e2] at e1
  rw [e1] at e0
  exact ⟨⟨a0, a1, a2, a3⟩, by rw [List.drop_zero] at e0; rw [e0]; rfl, g0, g1, g2, g3⟩
theorem ty_LTxn {n : Nat} {xs : List AV} (h : TyC Try.prog n 22 xs) : ∃ a : List (Txn), xs = [.list (.agg 4) (a.map txnA)] ∧ (a.length ≤ reachBytes ∧ ∀ y ∈ a, okTxn y) := by
  obtain ⟨l, rfl, hl, hx⟩ := ty_slice h Try.underlying22
  have hs : shOf Try.prog 29 = .agg 4 := by rw [shOf_struct Try.underlying29, show Try.prog.cellsOf 29 = 4 by kernel_rfl]
  have hb : 1 ≤ Try.prog.bytesOf 29 := Nat.le_of_ble_eq_true (by kernel_rfl)
  rw [hs] at hx ⊢
  have : ∀ x ∈ l, ∃ a : Txn, x = txnA a ∧ okTxn a := by
    intro x hxl
    obtain ⟨ys, hy, rfl⟩ := hx x hxl
    obtain ⟨a, e1, g1⟩ := ty_Txn hy
    exact ⟨a, by rw [e1]; rfl, g1⟩
  obtain ⟨a, rfl, ha⟩ := list_of' this
  exact ⟨a, rfl, Nat.le_trans (by simpa using Nat.le_mul_of_pos_right (a.map txnA).length hb) hl, ha⟩
end Go.Bv
