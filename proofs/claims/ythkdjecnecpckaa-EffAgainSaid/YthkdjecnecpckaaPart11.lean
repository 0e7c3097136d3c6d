/- Part of the lift: an abstract walk of the program's code, proved sound, and what it shows of this program. -/
import Derived.Test.YthkdjecnecpckaaPart10
import Derived.Test.YthkdjecnecpckaaPart7
import Derived.Test.YthkdjecnecpckaaPart5
import Derived.Test.YthkdjecnecpckaaPart3
namespace Go.Bv
set_option linter.unusedSimpArgs false
set_option linter.unusedVariables false
set_option maxHeartbeats 4000000
set_option maxRecDepth 20000
open Go Go.Proofs
theorem indexA_none (g : Nat) (sh : Sh) (cs : List AV) (d : List Item → Item → Bool) (l : List Item) (hl : l.length ≤ 2 ^ 38) (hg : ∀ k x, ACalls Try.prog g [itemA x, .ptr 0 0 0] [.row .box .leaf [.list sh cs]] (.bool (d k x)) [.row .box .leaf [.list sh cs]])
    (hn : ∀ (j : Nat) (h : j < l.length), d (l.take j) l[j] = false) : ACalls Try.prog Nm.slices_IndexFunc_api_Item_api_Item [.own 0 0 l.length, .fn g [.ptr 1 0 0]] [.row .vrow (.agg 8) (l.map itemA), .row .box .leaf [.list sh cs]] (i64 (-1)) [.row .vrow (.agg 8) (l.map itemA), .row .box .leaf [.list sh cs]] := by
  refine ACalls_of tab (dr_snd tab mixed) Nm.slices_IndexFunc_api_Item_api_Item_h rfl (by kernel_rfl) (Nat.le_of_ble_eq_true rfl) rfl ?_
  refine NLoop.mk [] [0, 1, 6, 7, 8] (fun m vs H => ∃ i, i ≤ l.length ∧ m = l.length - i ∧ H = [.row .vrow (.agg 8) (l.map itemA), .row .box .leaf [.list sh cs]] ∧ vs = [.own 0 0 l.length, .fn g [.ptr 1 0 0], .own 0 0 l.length, i64 l.length, i64 i]) rfl ?_ ?_
  · exact Canon.mk [] rfl ⟨l.length, 0, Nat.zero_le _, rfl, rfl, rfl⟩
  · rintro m vs H ⟨i, hi, rfl, rfl, rfl⟩
    by_cases hil : i < l.length
    · have hc := hg (l.take i) l[i]
      rw [hn i hil] at hc
      try rw [if_neg (by simp), ← List.take_succ_eq_append_getElem hil] at hc
      refine ND.yes (by omega) ?_
      refine NP.mk (by (simp only [List.length_map, List.length_append, List.length_replicate, List.length_cons, List.length_nil, List.length_take, List.length_drop]; omega)) ?_
      refine NG.map0N (by omega) ?_
      refine NCall.subSame [1] (hc) ?_
      refine NW.i64 (by omega) (by omega) ?_
      exact Canon.mk [] rfl ⟨l.length - (i + 1), by omega, i + 1, by omega, rfl, rfl, rfl⟩
    · have : i = l.length := by omega
      subst this
      try rw [List.take_length]
      refine ND.no (by omega) ?_
      exact NRet.mk [] rfl ⟨.refl _, rfl⟩
theorem indexA_some (g : Nat) (sh : Sh) (cs : List AV) (d : List Item → Item → Bool) (l : List Item) (hl : l.length ≤ 2 ^ 38) (hg : ∀ k x, ACalls Try.prog g [itemA x, .ptr 0 0 0] [.row .box .leaf [.list sh cs]] (.bool (d k x)) [.row .box .leaf [.list sh cs]])
    (i0 : Nat) (h0 : i0 < l.length) (hn : ∀ (j : Nat) (h : j < l.length), j < i0 → d (l.take j) l[j] = false) (hd : d (l.take i0) l[i0] = true) : ACalls Try.prog Nm.slices_IndexFunc_api_Item_api_Item [.own 0 0 l.length, .fn g [.ptr 1 0 0]] [.row .vrow (.agg 8) (l.map itemA), .row .box .leaf [.list sh cs]] (i64 i0) [.row .vrow (.agg 8) (l.map itemA), .row .box .leaf [.list sh cs]] := by
  refine ACalls_of tab (dr_snd tab mixed) Nm.slices_IndexFunc_api_Item_api_Item_h rfl (by kernel_rfl) (Nat.le_of_ble_eq_true rfl) rfl ?_
  refine NLoop.mk [] [0, 1, 6, 7, 8] (fun m vs H => ∃ i, i ≤ i0 ∧ m = l.length - i ∧ H = [.row .vrow (.agg 8) (l.map itemA), .row .box .leaf [.list sh cs]] ∧ vs = [.own 0 0 l.length, .fn g [.ptr 1 0 0], .own 0 0 l.length, i64 l.length, i64 i]) rfl ?_ ?_
  · exact Canon.mk [] rfl ⟨l.length, 0, Nat.zero_le _, rfl, rfl, rfl⟩
  · rintro m vs H ⟨i, hi, rfl, rfl, rfl⟩
    have hil : i < l.length := by omega
    have hc := hg (l.take i) l[i]
    by_cases hii : i = i0
    · subst hii
      rw [hd] at hc
      try rw [if_pos rfl] at hc
      refine ND.yes (by omega) ?_
      refine NP.mk (by (simp only [List.length_map, List.length_append, List.length_replicate, List.length_cons, List.length_nil, List.length_take, List.length_drop]; omega)) ?_
      refine NG.map0N (by omega) ?_
      refine NCall.subSame [1] (hc) ?_
      exact NRet.mk [] rfl ⟨.refl _, rfl⟩
    · rw [hn i hil (by omega)] at hc
      try rw [if_neg (by simp), ← List.take_succ_eq_append_getElem hil] at hc
      refine ND.yes (by omega) ?_
      refine NP.mk (by (simp only [List.length_map, List.length_append, List.length_replicate, List.length_cons, List.length_nil, List.length_take, List.length_drop]; omega)) ?_
      refine NG.map0N (by omega) ?_
      refine NCall.subSame [1] (hc) ?_
      refine NW.i64 (by omega) (by omega) ?_
      exact Canon.mk [] rfl ⟨l.length - (i + 1), by omega, i + 1, by omega, rfl, rfl, rfl⟩
theorem deleteA_walk (g : Nat) (sh : Sh) (cs : List AV) (d : List Item → Item → Bool) (l : List Item) (hl : l.length ≤ 2 ^ 38) (hg : ∀ k x, ACalls Try.prog g [itemA x, .ptr 0 0 0] [.row .box .leaf [.list sh cs]] (.bool (d k x)) [.row .box .leaf [.list sh cs]]) :
    ACalls Try.prog Nm.slices_DeleteFunc_api_Item_api_Item [.own 0 0 l.length, .fn g [.ptr 1 0 0]] [.row .vrow (.agg 8) (l.map itemA), .row .box .leaf [.list sh cs]] (.own 0 0 (keepD d l).length)
      [.row .vrow (.agg 8) ((keepD d l).map itemA ++ List.replicate (l.length - (keepD d l).length) zI), .row .box .leaf [.list sh cs]] := by
  refine ACalls_of tab (dr_snd tab mixed) Nm.slices_DeleteFunc_api_Item_api_Item_h rfl (by kernel_rfl) (Nat.le_of_ble_eq_true rfl) rfl ?_
  by_cases hex : ∃ i, ∃ h : i < l.length, d (l.take i) l[i] = true
  · obtain ⟨i0, ⟨h0, hd⟩, hmin⟩ := least_ex hex
    have hn : ∀ (j : Nat) (h : j < l.length), j < i0 → d (l.take j) l[j] = false := fun j h hj => by simpa using fun k => hmin j hj ⟨h, k⟩
    have hk0 := keepD_none d (l := l) (i := i0) (by omega) hn
    have hk1 : keepD d (l.take (i0 + 1)) = l.take i0 := by rw [keepD_take d h0, hk0, hd, if_pos rfl]
    have hlt : ∀ {j : Nat}, i0 < j → j ≤ l.length → (keepD d (l.take j)).length < j := fun {j} => keepD_lt d h0 (by rw [hk0, hd])
    have k1 := indexA_some g sh cs d l hl hg i0 h0 hn hd
    refine NCall.atA (k1) ?_
    refine ND.no (by omega) ?_
    refine NW.i64 (by omega) (by omega) ?_
    refine NLoop.mk [] [0, 1, 5, 6] (fun m vs H => ∃ j, i0 < j ∧ j ≤ l.length ∧ m = l.length - j ∧ H = [.row .vrow (.agg 8) ((keepD d (l.take j) ++ l.drop (keepD d (l.take j)).length).map itemA), .row .box .leaf [.list sh cs]] ∧
      vs = [.own 0 0 l.length, .fn g [.ptr 1 0 0], i64 (keepD d (l.take j)).length, i64 j]) rfl ?_ ?_
    · refine Canon.mk [] rfl ⟨_, i0 + 1, by omega, by omega, rfl, ?_, ?_⟩
      · rw [hk1, List.length_take, Nat.min_eq_left (by omega), List.take_append_drop]
      · rw [hk1, List.length_take, Nat.min_eq_left (by omega)]; rfl
    rintro m vs H ⟨j, hij, hj, rfl, rfl, rfl⟩
    by_cases hjl : j < l.length
    · have hlt := hlt hij hj
      have hkt := keepD_take d hjl
      obtain ⟨K, hK⟩ : ∃ K, K = keepD d (l.take j) := ⟨_, rfl⟩
      rw [← hK] at hlt hkt ⊢
      have hc := hg K l[j]
      obtain ⟨R, hR⟩ : ∃ R, R = K ++ l.drop K.length := ⟨_, rfl⟩
      have hrl : R.length = l.length := by rw [hR, List.length_append, List.length_drop]; omega
      have hjR : j < R.length := by omega
      have hget : R[j] = l[j] := by
        simp only [hR]
        rw [List.getElem_append_right (by omega), List.getElem_drop]
        congr 1; omega
      have hKR : K.length < R.length := by omega
      rw [← hR]
      cases hp : d K l[j] with
      | true =>
        rw [hp] at hc hkt
        rw [if_pos rfl] at hkt
        try rw [if_pos rfl] at hc
        rw [← hget] at hc
        refine ND.yes (by omega) ?_
        refine NP.mk (by (simp only [List.length_map, List.length_append, List.length_replicate, List.length_cons, List.length_nil, List.length_take, List.length_drop]; omega)) ?_
        refine NG.map0N (by omega) ?_
        refine NCall.subSame [1] (hc) ?_
        refine NW.i64 (by omega) (by omega) ?_
        refine Canon.mk [] rfl ⟨l.length - (j + 1), by omega, j + 1, by omega, by omega, rfl, ?_, ?_⟩
        · rw [hkt, ← hR]
        · rw [hkt]; rfl
      | false =>
        rw [hp] at hc hkt
        rw [if_neg (by simp)] at hkt
        try rw [if_neg (by simp)] at hc
        rw [← hget] at hc
        refine ND.yes (by omega) ?_
        refine NP.mk (by (simp only [List.length_map, List.length_append, List.length_replicate, List.length_cons, List.length_nil, List.length_take, List.length_drop]; omega)) ?_
        refine NG.map0N (by omega) ?_
        refine NCall.subSame [1] (hc) ?_
        refine NP.mk (by (simp only [List.length_map, List.length_append, List.length_replicate, List.length_cons, List.length_nil, List.length_take, List.length_drop]; omega)) ?_
        refine NG.map0N (by omega) ?_
        refine NW.i64 (by omega) (by omega) ?_
        refine NW.i64 (by omega) (by omega) ?_
        refine Canon.mk [] rfl ⟨l.length - (j + 1), by omega, j + 1, by omega, by omega, rfl, ?_, ?_⟩
        · rw [hkt]
          have : (R.map itemA).set (0 + K.length) (itemA R[j]) = ((K ++ [l[j]]) ++ l.drop (K ++ [l[j]]).length).map itemA := by
            rw [hget, Nat.zero_add, ← List.map_set, hR, List.set_append, if_neg (by omega), Nat.sub_self, List.drop_eq_getElem_cons (by omega), List.set_cons_zero, List.append_assoc, List.length_append]
            rfl
          rw [← this]
          try rw [← hget]
          rfl
        · rw [hkt, List.length_append]; rfl
    · have : j = l.length := by omega
      subst this
      have hlt := hlt hij hj
      rw [List.take_length] at hlt ⊢
      obtain ⟨K, hK⟩ : ∃ K, K = keepD d l := ⟨_, rfl⟩
      rw [← hK] at hlt ⊢
      have hrl : (K ++ l.drop K.length).length = l.length := by rw [List.length_append, List.length_drop]; omega
      refine ND.no (by omega) ?_
      refine NSl.mid (by omega) ?_
      refine NP.mk (by (simp only [List.length_map, List.length_append, List.length_replicate, List.length_cons, List.length_nil, List.length_take, List.length_drop]; omega)) ?_
      refine NRet.mk [] rfl ⟨.refl _, ?_⟩
      rw [Int.toNat_natCast, Nat.zero_add, List.map_append, List.take_left' (by simp), List.drop_eq_nil_of_le (by rw [List.length_append, List.length_map, List.length_map, List.length_drop]; omega), List.append_nil]
      rfl
  · have hn : ∀ (j : Nat) (h : j < l.length), d (l.take j) l[j] = false := fun j h => by simpa using fun k => hex ⟨j, h, k⟩
    have hk : keepD d l = l := by
      have := keepD_none d (l := l) (i := l.length) (Nat.le_refl _) (fun j h _ => hn j h)
      rwa [List.take_length] at this
    have k1 := indexA_none g sh cs d l hl hg hn
    rw [hk]
    refine NCall.atA (k1) ?_
    refine ND.yes (by omega) ?_
    refine NRet.mk [] rfl ⟨.refl _, ?_⟩
    rw [Nat.sub_self, List.replicate_zero, List.append_nil]
def seenE (k : List Item) : List (AV × AV) := k.map fun x => (dotA x.dot, .bool true)
theorem indexB_none (g : Nat) (d : List Item → Item → Bool) (l : List Item) (hl : l.length ≤ 2 ^ 38) (hg : ∀ k x, ACalls Try.prog g [itemA x, .ptr 0 0 0] [.row .box .leaf [.map 1], .map (seenE k)] (.bool (d k x)) [.row .box .leaf [.map 1], .map (seenE (if d k x then k else k ++ [x]))])
    (hn : ∀ (j : Nat) (h : j < l.length), d (l.take j) l[j] = false) : ACalls Try.prog Nm.slices_IndexFunc_api_Item_api_Item [.own 0 0 l.length, .fn g [.ptr 1 0 0]] [.row .vrow (.agg 8) (l.map itemA), .row .box .leaf [.map 2], .map (seenE [])] (i64 (-1)) [.row .vrow (.agg 8) (l.map itemA), .row .box .leaf [.map 2], .map (seenE l)] := by
  refine ACalls_of tab (dr_snd tab mixed) Nm.slices_IndexFunc_api_Item_api_Item_h rfl (by kernel_rfl) (Nat.le_of_ble_eq_true rfl) rfl ?_
  refine NLoop.mk [] [0, 1, 6, 7, 8] (fun m vs H => ∃ i, i ≤ l.length ∧ m = l.length - i ∧ H = [.row .vrow (.agg 8) (l.map itemA), .row .box .leaf [.map 2], .map (seenE (l.take i))] ∧ vs = [.own 0 0 l.length, .fn g [.ptr 1 0 0], .own 0 0 l.length, i64 l.length, i64 i]) rfl ?_ ?_
  · exact Canon.mk [] rfl ⟨l.length, 0, Nat.zero_le _, rfl, rfl, rfl⟩
  · rintro m vs H ⟨i, hi, rfl, rfl, rfl⟩
    by_cases hil : i < l.length
    · have hc := hg (l.take i) l[i]
      rw [hn i hil] at hc
      try rw [if_neg (by simp), ← List.take_succ_eq_append_getElem hil] at hc
      refine ND.yes (by omega) ?_
      refine NP.mk (by (simp only [List.length_map, List.length_append, List.length_replicate, List.length_cons, List.length_nil, List.length_take, List.length_drop]; omega)) ?_
      refine NG.map0N (by omega) ?_
      refine NCall.subA [1, 2] (hc) ?_
      refine NW.i64 (by omega) (by omega) ?_
      exact Canon.mk [] rfl ⟨l.length - (i + 1), by omega, i + 1, by omega, rfl, rfl, rfl⟩
    · have : i = l.length := by omega
      subst this
      try rw [List.take_length]
      refine ND.no (by omega) ?_
      exact NRet.mk [] rfl ⟨.refl _, rfl⟩
theorem indexB_some (g : Nat) (d : List Item → Item → Bool) (l : List Item) (hl : l.length ≤ 2 ^ 38) (hg : ∀ k x, ACalls Try.prog g [itemA x, .ptr 0 0 0] [.row .box .leaf [.map 1], .map (seenE k)] (.bool (d k x)) [.row .box .leaf [.map 1], .map (seenE (if d k x then k else k ++ [x]))])
    (i0 : Nat) (h0 : i0 < l.length) (hn : ∀ (j : Nat) (h : j < l.length), j < i0 → d (l.take j) l[j] = false) (hd : d (l.take i0) l[i0] = true) : ACalls Try.prog Nm.slices_IndexFunc_api_Item_api_Item [.own 0 0 l.length, .fn g [.ptr 1 0 0]] [.row .vrow (.agg 8) (l.map itemA), .row .box .leaf [.map 2], .map (seenE [])] (i64 i0) [.row .vrow (.agg 8) (l.map itemA), .row .box .leaf [.map 2], .map (seenE (l.take i0))] := by
  refine ACalls_of tab (dr_snd tab mixed) Nm.slices_IndexFunc_api_Item_api_Item_h rfl (by kernel_rfl) (Nat.le_of_ble_eq_true rfl) rfl ?_
  refine NLoop.mk [] [0, 1, 6, 7, 8] (fun m vs H => ∃ i, i ≤ i0 ∧ m = l.length - i ∧ H = [.row .vrow (.agg 8) (l.map itemA), .row .box .leaf [.map 2], .map (seenE (l.take i))] ∧ vs = [.own 0 0 l.length, .fn g [.ptr 1 0 0], .own 0 0 l.length, i64 l.length, i64 i]) rfl ?_ ?_
  · exact Canon.mk [] rfl ⟨l.length, 0, Nat.zero_le _, rfl, rfl, rfl⟩
  · rintro m vs H ⟨i, hi, rfl, rfl, rfl⟩
    have hil : i < l.length := by omega
    have hc := hg (l.take i) l[i]
    by_cases hii : i = i0
    · subst hii
      rw [hd] at hc
      try rw [if_pos rfl] at hc
      refine ND.yes (by omega) ?_
      refine NP.mk (by (simp only [List.length_map, List.length_append, List.length_replicate, List.length_cons, List.length_nil, List.length_take, List.length_drop]; omega)) ?_
      refine NG.map0N (by omega) ?_
      refine NCall.subSame [1, 2] (hc) ?_
      exact NRet.mk [] rfl ⟨.refl _, rfl⟩
    · rw [hn i hil (by omega)] at hc
      try rw [if_neg (by simp), ← List.take_succ_eq_append_getElem hil] at hc
      refine ND.yes (by omega) ?_
      refine NP.mk (by (simp only [List.length_map, List.length_append, List.length_replicate, List.length_cons, List.length_nil, List.length_take, List.length_drop]; omega)) ?_
      refine NG.map0N (by omega) ?_
      refine NCall.subA [1, 2] (hc) ?_
      refine NW.i64 (by omega) (by omega) ?_
      exact Canon.mk [] rfl ⟨l.length - (i + 1), by omega, i + 1, by omega, rfl, rfl, rfl⟩
theorem deleteB_walk (g : Nat) (d : List Item → Item → Bool) (l : List Item) (hl : l.length ≤ 2 ^ 38) (hg : ∀ k x, ACalls Try.prog g [itemA x, .ptr 0 0 0] [.row .box .leaf [.map 1], .map (seenE k)] (.bool (d k x)) [.row .box .leaf [.map 1], .map (seenE (if d k x then k else k ++ [x]))]) :
    ACalls Try.prog Nm.slices_DeleteFunc_api_Item_api_Item [.own 0 0 l.length, .fn g [.ptr 1 0 0]] [.row .vrow (.agg 8) (l.map itemA), .row .box .leaf [.map 2], .map (seenE [])] (.own 0 0 (keepD d l).length)
      [.row .vrow (.agg 8) ((keepD d l).map itemA ++ List.replicate (l.length - (keepD d l).length) zI), .row .box .leaf [.map 2], .map (seenE (keepD d l))] := by
  refine ACalls_of tab (dr_snd tab mixed) Nm.slices_DeleteFunc_api_Item_api_Item_h rfl (by kernel_rfl) (Nat.le_of_ble_eq_true rfl) rfl ?_
  by_cases hex : ∃ i, ∃ h : i < l.length, d (l.take i) l[i] = true
  · obtain ⟨i0, ⟨h0, hd⟩, hmin⟩ := least_ex hex
    have hn : ∀ (j : Nat) (h : j < l.length), j < i0 → d (l.take j) l[j] = false := fun j h hj => by simpa using fun k => hmin j hj ⟨h, k⟩
    have hk0 := keepD_none d (l := l) (i := i0) (by omega) hn
    have hk1 : keepD d (l.take (i0 + 1)) = l.take i0 := by rw [keepD_take d h0, hk0, hd, if_pos rfl]
    have hlt : ∀ {j : Nat}, i0 < j → j ≤ l.length → (keepD d (l.take j)).length < j := fun {j} => keepD_lt d h0 (by rw [hk0, hd])
    have k1 := indexB_some g d l hl hg i0 h0 hn hd
    refine NCall.atA (k1) ?_
    refine ND.no (by omega) ?_
    refine NW.i64 (by omega) (by omega) ?_
    refine NLoop.mk [] [0, 1, 5, 6] (fun m vs H => ∃ j, i0 < j ∧ j ≤ l.length ∧ m = l.length - j ∧ H = [.row .vrow (.agg 8) ((keepD d (l.take j) ++ l.drop (keepD d (l.take j)).length).map itemA), .row .box .leaf [.map 2], .map (seenE (keepD d (l.take j)))] ∧
      vs = [.own 0 0 l.length, .fn g [.ptr 1 0 0], i64 (keepD d (l.take j)).length, i64 j]) rfl ?_ ?_
    · refine Canon.mk [] rfl ⟨_, i0 + 1, by omega, by omega, rfl, ?_, ?_⟩
      · rw [hk1, List.length_take, Nat.min_eq_left (by omega), List.take_append_drop]
      · rw [hk1, List.length_take, Nat.min_eq_left (by omega)]; rfl
    rintro m vs H ⟨j, hij, hj, rfl, rfl, rfl⟩
    by_cases hjl : j < l.length
    · have hlt := hlt hij hj
      have hkt := keepD_take d hjl
      obtain ⟨K, hK⟩ : ∃ K, K = keepD d (l.take j) := ⟨_, rfl⟩
      rw [← hK] at hlt hkt ⊢
      have hc := hg K l[j]
      obtain ⟨R, hR⟩ : ∃ R, R = K ++ l.drop K.length := ⟨_, rfl⟩
      have hrl : R.length = l.length := by rw [hR, List.length_append, List.length_drop]; omega
      have hjR : j < R.length := by omega
      have hget : R[j] = l[j] := by
        simp only [hR]
        rw [List.getElem_append_right (by omega), List.getElem_drop]
        congr 1; omega
      have hKR : K.length < R.length := by omega
      rw [← hR]
      cases hp : d K l[j] with
      | true =>
        rw [hp] at hc hkt
        rw [if_pos rfl] at hkt
        try rw [if_pos rfl] at hc
        rw [← hget] at hc
        refine ND.yes (by omega) ?_
        refine NP.mk (by (simp only [List.length_map, List.length_append, List.length_replicate, List.length_cons, List.length_nil, List.length_take, List.length_drop]; omega)) ?_
        refine NG.map0N (by omega) ?_
        refine NCall.subSame [1, 2] (hc) ?_
        refine NW.i64 (by omega) (by omega) ?_
        refine Canon.mk [] rfl ⟨l.length - (j + 1), by omega, j + 1, by omega, by omega, rfl, ?_, ?_⟩
        · rw [hkt, ← hR]
        · rw [hkt]; rfl
      | false =>
        rw [hp] at hc hkt
        rw [if_neg (by simp)] at hkt
        try rw [if_neg (by simp)] at hc
        rw [← hget] at hc
        refine ND.yes (by omega) ?_
        refine NP.mk (by (simp only [List.length_map, List.length_append, List.length_replicate, List.length_cons, List.length_nil, List.length_take, List.length_drop]; omega)) ?_
        refine NG.map0N (by omega) ?_
        refine NCall.subA [1, 2] (hc) ?_
        refine NP.mk (by (simp only [List.length_map, List.length_append, List.length_replicate, List.length_cons, List.length_nil, List.length_take, List.length_drop]; omega)) ?_
        refine NG.map0N (by omega) ?_
        refine NW.i64 (by omega) (by omega) ?_
        refine NW.i64 (by omega) (by omega) ?_
        refine Canon.mk [] rfl ⟨l.length - (j + 1), by omega, j + 1, by omega, by omega, rfl, ?_, ?_⟩
        · rw [hkt]
          have : (R.map itemA).set (0 + K.length) (itemA R[j]) = ((K ++ [l[j]]) ++ l.drop (K ++ [l[j]]).length).map itemA := by
            rw [hget, Nat.zero_add, ← List.map_set, hR, List.set_append, if_neg (by omega), Nat.sub_self, List.drop_eq_getElem_cons (by omega), List.set_cons_zero, List.append_assoc, List.length_append]
            rfl
          rw [← this]
          try rw [← hget]
          rfl
        · rw [hkt, List.length_append]; rfl
    · have : j = l.length := by omega
      subst this
      have hlt := hlt hij hj
      rw [List.take_length] at hlt ⊢
      obtain ⟨K, hK⟩ : ∃ K, K = keepD d l := ⟨_, rfl⟩
      rw [← hK] at hlt ⊢
      have hrl : (K ++ l.drop K.length).length = l.length := by rw [List.length_append, List.length_drop]; omega
      refine ND.no (by omega) ?_
      refine NSl.mid (by omega) ?_
      refine NP.mk (by (simp only [List.length_map, List.length_append, List.length_replicate, List.length_cons, List.length_nil, List.length_take, List.length_drop]; omega)) ?_
      refine NRet.mk [] rfl ⟨.refl _, ?_⟩
      rw [Int.toNat_natCast, Nat.zero_add, List.map_append, List.take_left' (by simp), List.drop_eq_nil_of_le (by rw [List.length_append, List.length_map, List.length_map, List.length_drop]; omega), List.append_nil]
      rfl
  · have hn : ∀ (j : Nat) (h : j < l.length), d (l.take j) l[j] = false := fun j h => by simpa using fun k => hex ⟨j, h, k⟩
    have hk : keepD d l = l := by
      have := keepD_none d (l := l) (i := l.length) (Nat.le_refl _) (fun j h _ => hn j h)
      rwa [List.take_length] at this
    have k1 := indexB_none g d l hl hg hn
    rw [hk]
    refine NCall.atA (k1) ?_
    refine ND.yes (by omega) ?_
    refine NRet.mk [] rfl ⟨.refl _, ?_⟩
    rw [Nat.sub_self, List.replicate_zero, List.append_nil]
end Go.Bv
namespace Go.Bv
set_option linter.unusedSimpArgs false
set_option linter.unusedVariables false
set_option maxHeartbeats 4000000
set_option maxRecDepth 20000
open Go Go.Proofs
theorem keyEq_dot (a b : Dot) : keyEq [0, 0, 0] (dotA a) (dotA b) = some (decide (a = b)) := by
  rw [dot_dec]
  simp only [keyEq, dotA, dotC, allEqA, leafEqA, i64, kindBeq, Bool.and_true]
theorem seenE_get (k : List Item) (i : Nat) : (seenE k)[i]? = (k[i]?).map fun x => (dotA x.dot, AV.bool true) := by unfold seenE; rw [List.getElem?_map]
/-- Where a dot stands in the map of those seen. -/
theorem NFind.seen {k : List Item} {d : Dot} {T : Nat → AV → Prop} {E : Prop} (h1 : d ∈ k.map Item.dot → ∀ i, (seenE k)[i]? = some (dotA d, .bool true) → T i (.bool true)) (h2 : d ∉ k.map Item.dot → E) : NFind [0, 0, 0] (seenE k) (dotA d) T E := by
  by_cases h : d ∈ k.map Item.dot
  · have hex : ∃ i : Nat, ∃ x : Item, k[i]? = some x ∧ x.dot = d := by
      obtain ⟨x, hx, rfl⟩ := List.mem_map.1 h
      obtain ⟨i, hi⟩ := List.getElem?_of_mem hx
      exact ⟨i, x, hi, rfl⟩
    obtain ⟨i, ⟨x, hx, rfl⟩, hmin⟩ := least_ex hex
    have hi : (seenE k)[i]? = some (dotA x.dot, .bool true) := by rw [seenE_get, hx]; rfl
    refine .hit i (dotA x.dot) (.bool true) hi (by rw [keyEq_dot]; simp) (fun j hj k' v' hjj => ?_) (h1 h i hi)
    rw [seenE_get] at hjj
    cases hkj : k[j]? with
    | none => rw [hkj] at hjj; simp at hjj
    | some y =>
      rw [hkj] at hjj
      simp only [Option.map_some, Option.some.injEq, Prod.mk.injEq] at hjj
      rw [← hjj.1, keyEq_dot, decide_eq_false]
      exact fun e => hmin j hj ⟨y, hkj, e.symm⟩
  · refine .miss (fun j k' v' hjj => ?_) (h2 h)
    rw [seenE_get] at hjj
    cases hkj : k[j]? with
    | none => rw [hkj] at hjj; simp at hjj
    | some y =>
      rw [hkj] at hjj
      simp only [Option.map_some, Option.some.injEq, Prod.mk.injEq] at hjj
      rw [← hjj.1, keyEq_dot, decide_eq_false]
      exact fun e => h (List.mem_map.2 ⟨y, List.mem_of_getElem? hkj, e.symm⟩)
theorem set_same {α : Type} {l : List α} {i : Nat} {x : α} (h : l[i]? = some x) : l.set i x = l := by
  obtain ⟨hi, rfl⟩ := List.getElem?_eq_some_iff.1 h
  exact List.set_getElem_self hi
theorem normF_walk (k : List Item) (x : Item) : ACalls Try.prog Nm.item_Norm_1 [itemA x, .ptr 0 0 0] [.row .box .leaf [.map 1], .map (seenE k)] (.bool (hadI k x)) [.row .box .leaf [.map 1], .map (seenE (if hadI k x then k else k ++ [x]))] := by
  refine ACalls_of tab (dr_snd tab mixed) Nm.item_Norm_1_h rfl (by kernel_rfl) (Nat.le_of_ble_eq_true rfl) rfl ?_
  cases hp : hadI k x with
  | true =>
    have hm : x.dot ∈ k.map Item.dot := of_decide_eq_true hp
    skip
    refine NFind.seen (d := x.dot) (fun _ i hi => ?_) (fun h => absurd hm h)
    skip
    refine NFind.seen (d := x.dot) (fun _ i hi => ?_) (fun h => absurd hm h)
    have e1 : (seenE k).set i (dotA x.dot, .bool true) = seenE k := set_same hi
    skip
    exact NRet.mk [] rfl ⟨.refl _, by rw [if_pos rfl]; exact congrArg (fun m => [Blk.row .box .leaf [.map 1], .map m]) e1.symm⟩
  | false =>
    have hm : x.dot ∉ k.map Item.dot := of_decide_eq_false hp
    skip
    refine NFind.seen (d := x.dot) (fun h => absurd h hm) (fun _ => ?_)
    skip
    refine NFind.seen (d := x.dot) (fun h => absurd h hm) (fun _ => ?_)
    skip
    refine NRet.mk [] rfl ⟨.refl _, ?_⟩
    rw [if_neg (by simp)]
    unfold seenE
    rw [List.map_append]
    rfl
theorem without_own (l : List Item) (D : List Dot) (hl : l.length ≤ 2 ^ 38) (hD : D.length ≤ 2 ^ 40) : ACalls Try.prog Nm.item_Without [itemsA l, dotsA D] [] (.own 0 0 (without l D).length) [.row .vrow (.agg 8) ((without l D).map itemA ++ List.replicate (l.length - (without l D).length) zI)] := by
  refine ACalls_of tab (dr_snd tab mixed) Nm.item_Without_h rfl (by kernel_rfl) (Nat.le_of_ble_eq_true rfl) rfl ?_
  have k1 := cloneI_walk l hl
  have k2 := deleteA_walk Nm.item_Without_1 (.agg 3) (D.map dotA) (fun _ x => decide (x.dot ∈ D)) l hl (fun _ x => withoutF_walk D x hD)
  have e : keepD (fun _ x => decide (x.dot ∈ D)) l = without l D := by
    rw [keepD_filter]
    unfold without
    congr 1; funext x
    by_cases h : x.dot ∈ D <;> simp [h]
  rw [e] at k2
  refine NCall.atA (ACalls.frame (k1) rfl _) ?_
  refine NCall.subA [1, 0] (k2) ?_
  exact NRet.mk [1] rfl ⟨.refl _, rfl⟩
end Go.Bv
namespace Go.Bv
set_option linter.unusedSimpArgs false
set_option linter.unusedVariables false
set_option maxHeartbeats 4000000
set_option maxRecDepth 20000
open Go Go.Proofs
theorem sortFunc_walk (l : List Item) (hl : l.length ≤ 60000) : ACalls Try.prog Nm.slices_SortFunc_api_Item_api_Item [.own 0 0 l.length, .fn Nm.item_compare []] [.row .vrow (.agg 8) (l.map itemA)] (.tup []) [.row .vrow (.agg 8) ((isort l).map itemA)] := by
  refine ACalls_of tab (dr_snd tab mixed) Nm.slices_SortFunc_api_Item_api_Item_h rfl (by kernel_rfl) (Nat.le_of_ble_eq_true rfl) rfl ?_
  have h1 := len_walk l.length (by omega)
  have hb := (Go.Sort.bitsLen_le_iff l.length 16).2 (by omega)
  have h2 := pdq_walk l.length l 0 l.length (Go.Sort.bitsLen l.length) (by omega) (by omega) (Nat.le_refl _) hl (by omega) (Or.inl rfl)
  rw [pdq_isort] at h2
  have e : IntKind.wrap .u64 (l.length : Int) = (l.length : Int) := by rw [wrap_u64]; omega
  refine NW.mk _ rfl ?_
  rw [(e)]
  refine NCall.call (h1) rfl rfl ?_
  refine NCall.atA (h2) ?_
  exact NRet.mk [] rfl ⟨.refl _, rfl⟩
theorem isort_len (l : List Item) : (isort l).length = l.length := (isort_perm l).length_eq
theorem norm_len (l : List Item) : (norm l).length ≤ l.length := by
  unfold norm
  rw [← isort_len l]
  exact (nubF_sub _ _).length_le
theorem norm_own (l : List Item) (hl : l.length ≤ 60000) : ACalls Try.prog Nm.item_Norm [itemsA l] [] (.own 0 0 (norm l).length) [.row .vrow (.agg 8) ((norm l).map itemA ++ List.replicate (l.length - (norm l).length) zI)] := by
  refine ACalls_of tab (dr_snd tab mixed) Nm.item_Norm_h rfl (by kernel_rfl) (Nat.le_of_ble_eq_true rfl) rfl ?_
  have k1 := cloneI_walk l (by omega)
  have k2 := sortFunc_walk l hl
  have k3 := deleteB_walk Nm.item_Norm_1 hadI (isort l) (by rw [isort_len]; omega) (fun k x => normF_walk k x)
  rw [keepD_nub, isort_len] at k3
  rw [show nubF [] (isort l) = norm l from rfl] at k3
  refine NCall.atA (ACalls.frame (k1) rfl _) ?_
  refine NCall.atA (k2) ?_
  refine NCall.subA [0, 2, 1] (k3) ?_
  exact NRet.mk [0] rfl ⟨.refl _, rfl⟩
theorem without_len (l : List Item) (D : List Dot) : (without l D).length ≤ l.length := List.length_filter_le _ _
theorem doE_len (n s : Int) (l : List Item) (e : Eff) : (doE n s l e).length ≤ l.length + 1 := by
  have h1 := norm_len (rawE n s l e)
  have h2 := without_len l e.drops
  unfold doE
  refine Nat.le_trans h1 ?_
  unfold rawE madeL
  rw [List.length_append]
  split <;> simp only [List.length_nil, List.length_cons] <;> omega
theorem do_walk (l : List Item) (n s : Int) (es : List Eff) (hl : l.length ≤ 50000) (he : es.length ≤ 5000) (hx : ∀ e ∈ es, smEff e) : ACalls Try.prog Nm.eff_Do [itemsA l, i64 n, i64 s, effsA es] [] (itemsA (doL n s l es)) [] := by
  refine ACalls_of tab (dr_snd tab mixed) Nm.eff_Do_h rfl (by kernel_rfl) (Nat.le_of_ble_eq_true rfl) rfl ?_
  have k1 := cloneI_walk l (by omega)
  refine NCall.atA (ACalls.frame (k1) rfl _) ?_
  refine NLoop.mk [] [1, 2, 9, 14, 15, 16] (fun m vs H => ∃ (i : Nat) (junk : List AV), i ≤ es.length ∧ m = es.length - i ∧ (doL n s l (es.take i)).length ≤ l.length + i ∧ H = [.row .vrow (.agg 8) ((doL n s l (es.take i)).map itemA ++ junk)] ∧
    vs = [i64 n, i64 s, .own 0 0 (doL n s l (es.take i)).length, effsA es, i64 es.length, i64 i]) rfl ?_ ?_
  · exact Canon.mk [0] rfl ⟨es.length, 0, [], Nat.zero_le _, rfl, Nat.le_refl _, by rw [List.append_nil]; rfl, by rw [List.length_map]; rfl⟩
  rintro m vs H ⟨i, junk, hi, rfl, hlen, rfl, rfl⟩
  by_cases hil : i < es.length
  · have hs := hx _ (List.getElem_mem hil)
    have hstep : doL n s l (es.take (i + 1)) = doE n s (doL n s l (es.take i)) es[i] := by
      unfold doL
      rw [List.take_succ_eq_append_getElem hil, List.foldl_append]; rfl
    have hlen2 := doE_len n s (doL n s l (es.take i)) es[i]
    rw [← hstep] at hlen2
    have hw := without_len (doL n s l (es.take i)) es[i].drops
    have k2 := without_own (doL n s l (es.take i)) es[i].drops (by omega) hs.2.2.2
    have k3 := made_walk n s es[i]
    have k4 := norm_own (rawE n s (doL n s l (es.take i)) es[i]) (by
      unfold rawE madeL
      rw [List.length_append]
      split <;> simp only [List.length_nil, List.length_cons] <;> omega)
    rw [show norm (rawE n s (doL n s l (es.take i)) es[i]) = doL n s l (es.take (i + 1)) from hstep.symm] at k4
    have htk : ∀ (w : List Item) (X : List AV), List.take w.length (w.map itemA ++ X) = w.map itemA := fun w X => List.take_left' (by simp)
    obtain ⟨cur, hcur⟩ : ∃ c, c = doL n s l (es.take i) := ⟨_, rfl⟩
    rw [← hcur] at k2 k4 hw hlen ⊢
    unfold rawE madeL at k4
    obtain ⟨nxt, hnxt⟩ : ∃ c, c = doL n s l (es.take (i + 1)) := ⟨_, rfl⟩
    rw [← hnxt] at k4 hlen2
    rw [← hcur] at hlen2
    generalize without cur es[i].drops = w at *
    by_cases hk : es[i].kind = 0
    · rw [if_pos hk, List.append_nil] at k4
      refine ND.yes (by omega) ?_
      refine NP.mk (by omega) ?_
      refine NG.mapN (by omega) ?_
      refine NCall.roA [0] ?_
      rw [(htk cur junk)]
      refine NCall.atA (ACalls.frame (k2) rfl _) ?_
      refine ND.yes (by omega) ?_
      refine NCall.roA [2] ?_
      rw [(htk w _)]
      refine NCall.atA (ACalls.frame (k4) rfl _) ?_
      refine NW.i64 (by omega) (by omega) ?_
      exact Canon.mk [3] rfl ⟨es.length - (i + 1), by omega, i + 1, List.replicate (w.length - nxt.length) zI, by omega, rfl, by rw [← hnxt]; omega, by subst hnxt; rfl, by subst hnxt; rfl⟩
    · rw [if_neg hk] at k4
      obtain ⟨x, hxe⟩ : ∃ x, x = made n s es[i] := ⟨_, rfl⟩
      rw [← hxe] at k4 k3
      rw [show itemsA (w ++ [x]) = .list (.agg 8) (w.map itemA ++ [itemA x]) by simp [itemsA]] at k4
      by_cases hwe : cur.length - w.length = 0
      · rw [hwe, List.replicate_zero, List.append_nil] at k2
        refine ND.yes (by omega) ?_
        refine NP.mk (by omega) ?_
        refine NG.mapN (by omega) ?_
        refine NCall.roA [0] ?_
        rw [(htk cur junk)]
        refine NCall.atA (ACalls.frame (k2) rfl _) ?_
        refine ND.no (by omega) ?_
        refine NCall.call (k3) rfl rfl ?_
        refine NFz.own ?_
        refine NApp.endA (by simp) (by simp; omega) ?_
        refine NCall.roA [3] ?_
        rw [(tl0 _)]
        refine NCall.atA (ACalls.frame (k4) rfl _) ?_
        refine NW.i64 (by omega) (by omega) ?_
        exact Canon.mk [4] rfl ⟨es.length - (i + 1), by omega, i + 1, List.replicate ((w ++ [x]).length - nxt.length) zI, by omega, rfl, by rw [← hnxt]; omega, by subst hnxt; rfl, by subst hnxt; rfl⟩
      · obtain ⟨c, hc⟩ : ∃ c, cur.length - w.length = c + 1 := ⟨cur.length - w.length - 1, by omega⟩
        rw [hc] at k2
        have htk2 : List.take (w.length + 1) (w.map itemA ++ itemA x :: List.replicate c zI) = w.map itemA ++ [itemA x] := by
          rw [show w.map itemA ++ itemA x :: List.replicate c zI = (w.map itemA ++ [itemA x]) ++ List.replicate c zI by simp]
          exact List.take_left' (by simp)
        refine ND.yes (by omega) ?_
        refine NP.mk (by omega) ?_
        refine NG.mapN (by omega) ?_
        refine NCall.roA [0] ?_
        rw [(htk cur junk)]
        refine NCall.atA (ACalls.frame (k2) rfl _) ?_
        refine ND.no (by omega) ?_
        refine NCall.call (k3) rfl rfl ?_
        refine NFz.own ?_
        refine NApp.inA (es' := w.map itemA ++ itemA x :: List.replicate c zI) (by simp) ?_ rfl ?_ rfl
        rotate_left
        · have hd : List.drop (0 + w.length + 1) (w.map itemA ++ List.replicate (c + 1) zI) = List.replicate c zI := by
            rw [List.drop_append, List.drop_eq_nil_of_le (by simp), List.nil_append, List.length_map, show 0 + w.length + 1 - w.length = 1 by omega]; rfl
          show List.take (0 + w.length) (w.map itemA ++ List.replicate (c + 1) zI) ++ ([itemA x] ++ List.drop (0 + w.length + 1) (w.map itemA ++ List.replicate (c + 1) zI)) = _
          rw [hd, Nat.zero_add, List.take_left' (by simp)]; rfl
        refine NCall.roA [2] ?_
        rw [(htk2)]
        refine NCall.atA (ACalls.frame (k4) rfl _) ?_
        refine NW.i64 (by omega) (by omega) ?_
        exact Canon.mk [3] rfl ⟨es.length - (i + 1), by omega, i + 1, List.replicate ((w ++ [x]).length - nxt.length) zI, by omega, rfl, by rw [← hnxt]; omega, by subst hnxt; rfl, by subst hnxt; rfl⟩
  · have : i = es.length := by omega
    subst this
    rw [List.take_length]
    refine ND.no (by omega) ?_
    exact NRet.mk [] rfl (NFrz.mk ((doL n s l es).map itemA) (by simp) (by rw [List.drop_zero, List.take_left' (by simp)]) ⟨.refl _, rfl⟩)
end Go.Bv
namespace Go.Bv
set_option linter.unusedSimpArgs false
set_option linter.unusedVariables false
set_option maxHeartbeats 4000000
set_option maxRecDepth 20000
open Go Go.Proofs
end Go.Bv
namespace Go.Bv
set_option linter.unusedSimpArgs false
set_option linter.unusedVariables false
set_option maxHeartbeats 4000000
set_option maxRecDepth 20000
open Go Go.Proofs
theorem same9_walk (a b : List Item) (ha : a.length ≤ 2 ^ 38) : ACalls Try.prog Nm.ref09_Same [itemsA a, itemsA b] [] (.bool (decide (a = b))) [] := by
  refine ACalls_of tab (dr_snd tab mixed) Nm.ref09_Same_h rfl (by kernel_rfl) (Nat.le_of_ble_eq_true rfl) rfl ?_
  by_cases hl : a.length = b.length
  · refine ND.yes (by (simp only [List.length_map, List.length_append, List.length_replicate, List.length_cons, List.length_nil, List.length_take, List.length_drop]; omega)) ?_
    refine NLoop.mk [] [0, 1, 5] (fun m vs H => ∃ i, i ≤ a.length ∧ m = a.length - i ∧ a.take i = b.take i ∧ H = [] ∧ vs = [itemsA a, itemsA b, i64 i]) rfl ?_ ?_
    · exact Canon.mk [] rfl ⟨a.length, 0, Nat.zero_le _, rfl, rfl, rfl, rfl⟩
    · rintro m vs H ⟨i, hi, rfl, ht, rfl, rfl⟩
      by_cases hil : i < a.length
      · have hib : i < b.length := by omega
        refine ND.yes (by (simp only [List.length_map, List.length_append, List.length_replicate, List.length_cons, List.length_nil, List.length_take, List.length_drop]; omega)) ?_
        refine NP.mk (by kernel_rfl) ?_
        apply NDr.pure
        · exact ⟨rfl, rfl⟩
        apply NDr.pure
        · exact ⟨rfl, rfl⟩
        apply NDr.pure
        · refine NP.mk (by omega) ?_
          refine NG.mapN (by omega) ?_
          exact ⟨rfl, rfl⟩
        apply NDr.pure
        · exact ⟨rfl, rfl⟩
        apply NDr.pure
        · exact ⟨rfl, rfl⟩
        apply NDr.pure
        · exact ⟨rfl, rfl⟩
        apply NDr.pure
        · refine NP.mk (by omega) ?_
          refine NG.mapN (by omega) ?_
          exact ⟨rfl, rfl⟩
        apply NDr.pure
        · exact ⟨rfl, rfl⟩
        apply NDr.pure
        · exact NB.det'
        refine NP.mk (by kernel_rfl) ?_
        refine NB.mk (fun hk3 => ?_) (fun hk3 => ?_)
        · refine NRet.boolE (b := false) ?_ (NRet.mk [] rfl ⟨.refl _, rfl⟩)
          grind
        refine NW.i64 (by omega) (by omega) ?_
        exact Canon.mk [] rfl ⟨a.length - (i + 1), by omega, i + 1, by omega, rfl, take_eq_next ht hil hib (by grind [Item.ext_iff, Dot.ext_iff]), rfl, rfl⟩
      · have : i = a.length := by omega
        subst this
        rw [decide_eq_true (take_eq_end hl ht)]
        refine ND.no (by (simp only [List.length_map, List.length_append, List.length_replicate, List.length_cons, List.length_nil, List.length_take, List.length_drop]; omega)) ?_
        exact NRet.mk [] rfl ⟨.refl _, rfl⟩
  · rw [decide_eq_false fun e => hl (by rw [e])]
    refine ND.no (by (simp only [List.length_map, List.length_append, List.length_replicate, List.length_cons, List.length_nil, List.length_take, List.length_drop]; omega)) ?_
    exact NRet.mk [] rfl ⟨.refl _, rfl⟩
def shortI (x : Item) : Bool := decide (x.key.length ≤ 300 ∧ x.field.length ≤ 300 ∧ x.elem.length ≤ 300)
def shortIs (l : List Item) : Bool := decide (l.length ≤ 60) && l.all shortI
theorem short9_walk (l : List Item) (hl : l.length ≤ 2 ^ 47) (hx : ∀ e ∈ l, okItem e) : ACalls Try.prog Nm.ref09_Short [itemsA l] [] (.bool (shortIs l)) [] := by
  refine ACalls_of tab (dr_snd tab mixed) Nm.ref09_Short_h rfl (by kernel_rfl) (Nat.le_of_ble_eq_true rfl) rfl ?_
  unfold shortIs
  by_cases h : l.length ≤ 60
  · rw [decide_eq_true h, Bool.true_and]
    refine ND.no (by (simp only [List.length_map, List.length_append, List.length_replicate, List.length_cons, List.length_nil, List.length_take, List.length_drop]; omega)) ?_
    refine NLoop.mk [] [0, 3] (fun m vs H => ∃ i, i ≤ l.length ∧ m = l.length - i ∧ (∀ x ∈ l.take i, shortI x = true) ∧ H = [] ∧ vs = [itemsA l, i64 i]) rfl ?_ ?_
    · exact Canon.mk [] rfl ⟨l.length, 0, Nat.zero_le _, rfl, by simp, rfl, rfl⟩
    · rintro m vs H ⟨i, hi, rfl, ht, rfl, rfl⟩
      by_cases hil : i < l.length
      · obtain ⟨f1, f2⟩ := all_step hil ht
        obtain ⟨x1, x2, _, x3, _⟩ := hx _ (List.getElem_mem hil)
        have x1 := reach_lt x1
        have x2 := reach_lt x2
        have x3 := reach_lt x3
        cases hp : shortI l[i] with
        | true =>
          have hp' := hp
          unfold shortI at hp'
          simp only [decide_eq_true_eq] at hp'
          refine ND.yes (by (simp only [List.length_map, List.length_append, List.length_replicate, List.length_cons, List.length_nil, List.length_take, List.length_drop]; omega)) ?_
          refine NP.mk (by omega) ?_
          refine NG.mapN (by omega) ?_
          refine ND.no (by omega) ?_
          refine NP.mk (by omega) ?_
          refine NG.mapN (by omega) ?_
          refine ND.no (by omega) ?_
          refine NP.mk (by omega) ?_
          refine NG.mapN (by omega) ?_
          refine ND.no (by omega) ?_
          refine NW.i64 (by omega) (by omega) ?_
          exact Canon.mk [] rfl ⟨l.length - (i + 1), by omega, i + 1, by omega, rfl, f2 hp, rfl, rfl⟩
        | false =>
          rw [f1 hp]
          have hp' := hp
          unfold shortI at hp'
          simp only [decide_eq_false_iff_not] at hp'
          refine ND.yes (by (simp only [List.length_map, List.length_append, List.length_replicate, List.length_cons, List.length_nil, List.length_take, List.length_drop]; omega)) ?_
          refine NP.mk (by omega) ?_
          refine NG.mapN (by omega) ?_
          refine NB.dec (fun hk2 => ?_) (fun hk2 => ?_)
          · exact NRet.mk [] rfl ⟨.refl _, rfl⟩
          refine NP.mk (by omega) ?_
          refine NG.mapN (by omega) ?_
          refine NB.dec (fun hk3 => ?_) (fun hk3 => ?_)
          · exact NRet.mk [] rfl ⟨.refl _, rfl⟩
          refine NP.mk (by omega) ?_
          refine NG.mapN (by omega) ?_
          refine ND.yes (by omega) ?_
          exact NRet.mk [] rfl ⟨.refl _, rfl⟩
      · have : i = l.length := by omega
        subst this
        rw [all_end ht]
        refine ND.no (by (simp only [List.length_map, List.length_append, List.length_replicate, List.length_cons, List.length_nil, List.length_take, List.length_drop]; omega)) ?_
        exact NRet.mk [] rfl ⟨.refl _, rfl⟩
  · rw [decide_eq_false h, Bool.false_and]
    refine ND.yes (by (simp only [List.length_map, List.length_append, List.length_replicate, List.length_cons, List.length_nil, List.length_take, List.length_drop]; omega)) ?_
    exact NRet.mk [] rfl ⟨.refl _, rfl⟩
theorem hasL_walk (l : List Item) (node seq : Int) (hl : l.length ≤ 2 ^ 38) : ACalls Try.prog Nm.law10_has [itemsA l, i64 node, i64 seq] [] (.bool (hasI l node seq)) [] := by
  refine ACalls_of tab (dr_snd tab mixed) Nm.law10_has_h rfl (by kernel_rfl) (Nat.le_of_ble_eq_true rfl) rfl ?_
  refine NLoop.mk [] [0, 1, 2, 7] (fun m vs H => ∃ i, i ≤ l.length ∧ m = l.length - i ∧ (∀ x ∈ l.take i, decide (x.dot.node = node ∧ x.dot.seq = seq) = false) ∧ H = [] ∧ vs = [itemsA l, i64 node, i64 seq, i64 i]) rfl ?_ ?_
  · exact Canon.mk [] rfl ⟨l.length, 0, Nat.zero_le _, rfl, by simp, rfl, rfl⟩
  · rintro m vs H ⟨i, hi, rfl, ht, rfl, rfl⟩
    by_cases hil : i < l.length
    · obtain ⟨f1, f2⟩ := find_step (p := fun x : Item => decide (x.dot.node = node ∧ x.dot.seq = seq)) hil ht
      by_cases hp : l[i].dot.node = node ∧ l[i].dot.seq = seq
      · rw [show hasI l node seq = true from List.any_eq_true.2 ⟨_, List.getElem_mem hil, decide_eq_true hp⟩]
        refine ND.yes (by (simp only [List.length_map, List.length_append, List.length_replicate, List.length_cons, List.length_nil, List.length_take, List.length_drop]; omega)) ?_
        refine NP.mk (by omega) ?_
        refine NG.mapN (by omega) ?_
        refine ND.yes (by omega) ?_
        refine NP.mk (by omega) ?_
        refine NG.mapN (by omega) ?_
        refine ND.yes (by omega) ?_
        exact NRet.mk [] rfl ⟨.refl _, rfl⟩
      · have f2 := f2 (decide_eq_false hp)
        by_cases h1 : l[i].dot.node = node
        · have h2 : ¬ l[i].dot.seq = seq := fun h => hp ⟨h1, h⟩
          refine ND.yes (by (simp only [List.length_map, List.length_append, List.length_replicate, List.length_cons, List.length_nil, List.length_take, List.length_drop]; omega)) ?_
          refine NP.mk (by omega) ?_
          refine NG.mapN (by omega) ?_
          refine ND.yes (by omega) ?_
          refine NP.mk (by omega) ?_
          refine NG.mapN (by omega) ?_
          refine ND.no (by omega) ?_
          refine NW.i64 (by omega) (by omega) ?_
          exact Canon.mk [] rfl ⟨l.length - (i + 1), by omega, i + 1, by omega, rfl, f2, rfl, rfl⟩
        · refine ND.yes (by (simp only [List.length_map, List.length_append, List.length_replicate, List.length_cons, List.length_nil, List.length_take, List.length_drop]; omega)) ?_
          refine NP.mk (by omega) ?_
          refine NG.mapN (by omega) ?_
          refine ND.no (by omega) ?_
          refine NW.i64 (by omega) (by omega) ?_
          exact Canon.mk [] rfl ⟨l.length - (i + 1), by omega, i + 1, by omega, rfl, f2, rfl, rfl⟩
    · have : i = l.length := by omega
      subst this
      rw [List.take_length] at ht
      rw [show hasI l node seq = false from List.any_eq_false.2 fun x hx => by rw [ht x hx]; simp]
      refine ND.no (by (simp only [List.length_map, List.length_append, List.length_replicate, List.length_cons, List.length_nil, List.length_take, List.length_drop]; omega)) ?_
      exact NRet.mk [] rfl ⟨.refl _, rfl⟩
end Go.Bv
namespace Go.Bv
set_option linter.unusedSimpArgs false
set_option linter.unusedVariables false
set_option maxHeartbeats 4000000
open Go Go.Proofs
end Go.Bv
namespace Go.Bv
open Go Go.Proofs
end Go.Bv
namespace Go.Bv
set_option linter.unusedSimpArgs false
set_option linter.unusedVariables false
set_option maxHeartbeats 4000000
set_option maxRecDepth 20000
open Go Go.Proofs
end Go.Bv
namespace Go.Bv
open Go Go.Proofs
def numB (n : Int) : List UInt8 := numBytes n.toNat
def textB (s : List UInt8) : List UInt8 := numBytes s.length ++ s
def int8B (n : Int) : List UInt8 := intBytes (u64of n) 8
def numsB (l : List Int) : List UInt8 := l.flatMap numB
def dotB (d : Dot) : List UInt8 := numsB [d.node, d.seq, d.at']
def effB (e : Eff) : List UInt8 := numB e.at' ++ (textB e.key ++ (textB e.field ++ (numB e.kind ++ (textB e.elem ++ (int8B e.n ++ (numB e.drops.length ++ e.drops.flatMap dotB))))))
theorem numsB_cons (n : Int) (l : List Int) : numsB (n :: l) = numB n ++ numsB l := rfl
theorem numsB_nil : numsB [] = [] := rfl
end Go.Bv
namespace Go.Bv
set_option linter.unusedSimpArgs false
set_option linter.unusedVariables false
set_option maxHeartbeats 4000000
set_option maxRecDepth 20000
open Go Go.Proofs
/-- The steps of an effect's bytes. -/
structure Steps (c0 : List UInt8) (e : Eff) where
  c1 : List UInt8
  c2 : List UInt8
  c3 : List UInt8
  c4 : List UInt8
  c5 : List UInt8
  c6 : List UInt8
  c7 : List UInt8
  h1 : c1 = c0 ++ numsB [e.at']
  h2 : c2 = c1 ++ textB e.key
  h3 : c3 = c2 ++ textB e.field
  h4 : c4 = c3 ++ numsB [e.kind]
  h5 : c5 = c4 ++ textB e.elem
  h6 : c6 = c5 ++ int8B e.n
  h7 : c7 = c6 ++ numsB [(e.drops.length : Int)]
def steps (c0 : List UInt8) (e : Eff) : Steps c0 e := ⟨_, _, _, _, _, _, _, rfl, rfl, rfl, rfl, rfl, rfl, rfl⟩
theorem Steps.eff {c0 : List UInt8} {e : Eff} (s : Steps c0 e) : s.c7 ++ e.drops.flatMap dotB = c0 ++ effB e := by
  rw [s.h7, s.h6, s.h5, s.h4, s.h3, s.h2, s.h1]
  simp only [effB, numsB_cons, numsB_nil, List.append_nil, List.append_assoc]
end Go.Bv
namespace Go.Bv
open Go Go.Proofs
end Go.Bv
namespace Go.Bv
set_option linter.unusedSimpArgs false
set_option linter.unusedVariables false
set_option maxHeartbeats 4000000
set_option maxRecDepth 20000
open Go Go.Proofs
end Go.Bv
namespace Go.Bv
set_option linter.unusedSimpArgs false
set_option linter.unusedVariables false
set_option maxHeartbeats 4000000
set_option maxRecDepth 20000
open Go Go.Proofs
end Go.Bv
namespace Go.Bv
set_option linter.unusedSimpArgs false
set_option linter.unusedVariables false
set_option maxHeartbeats 4000000
set_option maxRecDepth 20000
open Go Go.Proofs
end Go.Bv
namespace Go.Bv
set_option linter.unusedSimpArgs false
set_option linter.unusedVariables false
set_option maxHeartbeats 4000000
open Go Go.Proofs
end Go.Bv
namespace Go.Bv
set_option linter.unusedSimpArgs false
set_option linter.unusedVariables false
set_option maxHeartbeats 4000000
set_option maxRecDepth 20000
open Go Go.Proofs
end Go.Bv
namespace Go.Bv
set_option linter.unusedSimpArgs false
set_option linter.unusedVariables false
set_option maxHeartbeats 4000000
set_option maxRecDepth 20000
open Go Go.Proofs
theorem shortEs_sm {l : List Eff} (h : shortEs l = true) : l.length ≤ 20 ∧ ∀ e ∈ l, smEff e := by
  unfold shortEs at h
  rw [Bool.and_eq_true, List.all_eq_true] at h
  refine ⟨of_decide_eq_true h.1, fun e he => ?_⟩
  have := of_decide_eq_true (h.2 e he)
  exact ⟨by omega, by omega, by omega, by omega⟩
theorem shortIs_sm {l : List Item} (h : shortIs l = true) : l.length ≤ 60 ∧ ∀ e ∈ l, smItem e := by
  unfold shortIs at h
  rw [Bool.and_eq_true, List.all_eq_true] at h
  refine ⟨of_decide_eq_true h.1, fun e he => ?_⟩
  have := of_decide_eq_true (h.2 e he)
  exact ⟨by omega, by omega, by omega⟩
def x10 : Item := ⟨[97], [], 1, [120], 0, ⟨0, 1, 0⟩⟩
def e10 : Eff := ⟨0, [97], [], 1, [121], 0, [⟨0, 1, 0⟩]⟩
theorem do10 : doL 1 1 [x10] [e10] = [⟨[97], [], 1, [121], 0, ⟨1, 1, 0⟩⟩] := by
  show norm (rawE 1 1 [x10] e10) = _
  rw [show rawE 1 1 [x10] e10 = [⟨[97], [], 1, [121], 0, ⟨1, 1, 0⟩⟩] by decide]
  exact norm_self (by simp) (by simp)
theorem awake10 : ACalls Try.prog Nm.law10_awake [] [] (.bool true) [] := by
  refine ACalls_of tab (dr_snd tab mixed) Nm.law10_awake_h rfl (by kernel_rfl) (Nat.le_of_ble_eq_true rfl) rfl ?_
  have h1 := do_walk [x10] 1 1 [e10] (by simp) (by simp) (by simp [smEff, e10])
  rw [do10] at h1
  have h2 := right_walk 1 1 [e10] (by simp) (by simp [smEff, e10])
  rw [show effsOk 1 1 [e10] = true by decide] at h2
  refine NCall.call (h1) rfl rfl ?_
  refine ND.yes (by rfl) ?_
  refine NP.mk (by omega) ?_
  refine NG.mapN (by (simp only [List.length_map, List.length_append, List.length_replicate, List.length_cons, List.length_nil, List.length_take, List.length_drop]; omega)) ?_
  refine ND.yes (by rfl) ?_
  refine NP.mk (by omega) ?_
  refine NG.mapN (by (simp only [List.length_map, List.length_append, List.length_replicate, List.length_cons, List.length_nil, List.length_take, List.length_drop]; omega)) ?_
  refine ND.yes (by simp) ?_
  refine NCall.call (h2) rfl rfl ?_
  exact NRet.mk [] rfl ⟨.refl _, rfl⟩
theorem sameI_self (l : List Item) (h : l.length ≤ 2 ^ 38) : ACalls Try.prog Nm.ref09_Same [itemsA l, itemsA l] [] (.bool true) [] := by
  have := same9_walk l l h
  rwa [decide_eq_true rfl] at this
theorem effAgain_walk (l : List Item) (node seq : Int) (a : List Eff) (hl : l.length ≤ reachBytes) (hlx : ∀ e ∈ l, okItem e) (ha : a.length ≤ reachBytes) (hax : ∀ e ∈ a, okEff e) : ACalls Try.prog Nm.law10_EffAgain [itemsA l, i64 node, i64 seq, effsA a] [] (.bool true) [] := by
  refine ACalls_of tab (dr_snd tab mixed) Nm.law10_EffAgain_h rfl (by kernel_rfl) (Nat.le_of_ble_eq_true rfl) rfl ?_
  have hl' := reach_lt hl
  have ha' := reach_lt ha
  have s1 := short10_walk a (by omega) hax
  have s2 := short9_walk l (by omega) hlx
  cases h1 : shortEs a with
  | false =>
    rw [h1] at s1
    refine NCall.call (awake10) rfl rfl ?_
    refine NCall.call (s1) rfl rfl ?_
    exact NRet.mk [] rfl ⟨.refl _, rfl⟩
  | true =>
    rw [h1] at s1
    obtain ⟨a1, a2⟩ := shortEs_sm h1
    cases h2 : shortIs l with
    | false =>
      rw [h2] at s2
      refine NCall.call (awake10) rfl rfl ?_
      refine NCall.call (s1) rfl rfl ?_
      refine NCall.call (s2) rfl rfl ?_
      exact NRet.mk [] rfl ⟨.refl _, rfl⟩
    | true =>
      rw [h2] at s2
      obtain ⟨l1, l2⟩ := shortIs_sm h2
      have s3 := right_walk node seq a (by omega) a2
      cases h3 : effsOk node seq a with
      | false =>
        rw [h3] at s3
        refine NCall.call (awake10) rfl rfl ?_
        refine NCall.call (s1) rfl rfl ?_
        refine NCall.call (s2) rfl rfl ?_
        refine NCall.call (s3) rfl rfl ?_
        exact NRet.mk [] rfl ⟨.refl _, rfl⟩
      | true =>
        rw [h3] at s3
        have s4 := hasL_walk l node seq (by omega)
        cases h4 : hasI l node seq with
        | true =>
          rw [h4] at s4
          refine NCall.call (awake10) rfl rfl ?_
          refine NCall.call (s1) rfl rfl ?_
          refine NCall.call (s2) rfl rfl ?_
          refine NCall.call (s3) rfl rfl ?_
          refine NCall.call (s4) rfl rfl ?_
          exact NRet.mk [] rfl ⟨.refl _, rfl⟩
        | false =>
          rw [h4] at s4
          have hd := doL_len (n := node) (s := seq) a l
          have k1 := do_walk l node seq a (by omega) (by omega) a2
          have k2 := do_walk (doL node seq l a) node seq a (by omega) (by omega) a2
          rw [do_again] at k2
          have k3 := sameI_self (doL node seq l a) (by omega)
          generalize doL node seq l a = o at *
          refine NCall.call (awake10) rfl rfl ?_
          refine NCall.call (s1) rfl rfl ?_
          refine NCall.call (s2) rfl rfl ?_
          refine NCall.call (s3) rfl rfl ?_
          refine NCall.call (s4) rfl rfl ?_
          refine NCall.call (k1) rfl rfl ?_
          refine NCall.call (k2) rfl rfl ?_
          refine NCall.call (k3) rfl rfl ?_
          exact NRet.mk [] rfl ⟨.refl _, rfl⟩
end Go.Bv
namespace Go.Bv
open Go Go.Proofs
theorem ty_Dot {n : Nat} {xs : List AV} (h : TyC Try.prog n 47 xs) : ∃ a : Dot, xs = dotC a ∧ okDot a := by
  obtain ⟨hl, hf⟩ := ty_struct h Try.underlying47
  have c3 : Try.prog.cellsOf 3 = 1 := by kernel_rfl
  have c47 : Try.prog.cellsOf 47 = 3 := by kernel_rfl
  rw [c47] at hl
  have h0 := hf _ (List.mem_cons_self ..)
  dsimp only at h0
  rw [c3] at h0
  obtain ⟨a0, e0, g0⟩ := ty_i64 h0 Try.underlying3
  have e0 := drop_more e0 rfl
  have h1 := hf _ (List.mem_cons_of_mem _ (List.mem_cons_self ..))
  dsimp only at h1
  rw [c3] at h1
  obtain ⟨a1, e1, g1⟩ := ty_i64 h1 Try.underlying3
  have e1 := drop_more e1 rfl
  have h2 := hf _ (List.mem_cons_of_mem _ (List.mem_cons_of_mem _ (List.mem_cons_self ..)))
  dsimp only at h2
  rw [c3] at h2
  obtain ⟨a2, e2, g2⟩ := ty_i64 h2 Try.underlying3
  have e2 := drop_more e2 rfl
  rw [drop_all' hl] at e2
  rw [e2] at e1
  rw [e1] at e0
  exact ⟨⟨a0, a1, a2⟩, by rw [List.drop_zero] at e0; rw [e0]; rfl, g0, g1, g2⟩
theorem ty_LDot {n : Nat} {xs : List AV} (h : TyC Try.prog n 64 xs) : ∃ a : List (Dot), xs = [.list (.agg 3) (a.map dotA)] ∧ (a.length ≤ reachBytes ∧ ∀ y ∈ a, okDot y) := by
  obtain ⟨l, rfl, hl, hx⟩ := ty_slice h Try.underlying64
  have hs : shOf Try.prog 47 = .agg 3 := by rw [shOf_struct Try.underlying47, show Try.prog.cellsOf 47 = 3 by kernel_rfl]
  have hb : 1 ≤ Try.prog.bytesOf 47 := Nat.le_of_ble_eq_true (by kernel_rfl)
  rw [hs] at hx ⊢
  have : ∀ x ∈ l, ∃ a : Dot, x = dotA a ∧ okDot a := by
    intro x hxl
    obtain ⟨ys, hy, rfl⟩ := hx x hxl
    obtain ⟨a, e1, g1⟩ := ty_Dot hy
    exact ⟨a, by rw [e1]; rfl, g1⟩
  obtain ⟨a, rfl, ha⟩ := list_of' this
  exact ⟨a, rfl, Nat.le_trans (by simpa using Nat.le_mul_of_pos_right (a.map dotA).length hb) hl, ha⟩
theorem ty_Eff {n : Nat} {xs : List AV} (h : TyC Try.prog n 66 xs) : ∃ a : Eff, xs = effC a ∧ okEff a := by
  obtain ⟨hl, hf⟩ := ty_struct h Try.underlying66
  have c3 : Try.prog.cellsOf 3 = 1 := by kernel_rfl
  have c9 : Try.prog.cellsOf 9 = 1 := by kernel_rfl
  have c2 : Try.prog.cellsOf 2 = 1 := by kernel_rfl
  have c64 : Try.prog.cellsOf 64 = 1 := by kernel_rfl
  have c66 : Try.prog.cellsOf 66 = 7 := by kernel_rfl
  rw [c66] at hl
  have h0 := hf _ (List.mem_cons_self ..)
  dsimp only at h0
  rw [c3] at h0
  obtain ⟨a0, e0, g0⟩ := ty_i64 h0 Try.underlying3
  have e0 := drop_more e0 rfl
  have h1 := hf _ (List.mem_cons_of_mem _ (List.mem_cons_self ..))
  dsimp only at h1
  rw [c9] at h1
  obtain ⟨a1, e1, g1⟩ := ty_str h1 Try.underlying9
  have e1 := drop_more e1 rfl
  have h2 := hf _ (List.mem_cons_of_mem _ (List.mem_cons_of_mem _ (List.mem_cons_self ..)))
  dsimp only at h2
  rw [c9] at h2
  obtain ⟨a2, e2, g2⟩ := ty_str h2 Try.underlying9
  have e2 := drop_more e2 rfl
  have h3 := hf _ (List.mem_cons_of_mem _ (List.mem_cons_of_mem _ (List.mem_cons_of_mem _ (List.mem_cons_self ..))))
  dsimp only at h3
  rw [c3] at h3
  obtain ⟨a3, e3, g3⟩ := ty_i64 h3 Try.underlying3
  have e3 := drop_more e3 rfl
  have h4 := hf _ (List.mem_cons_of_mem _ (List.mem_cons_of_mem _ (List.mem_cons_of_mem _ (List.mem_cons_of_mem _ (List.mem_cons_self ..)))))
  dsimp only at h4
  rw [c9] at h4
  obtain ⟨a4, e4, g4⟩ := ty_str h4 Try.underlying9
  have e4 := drop_more e4 rfl
  have h5 := hf _ (List.mem_cons_of_mem _ (List.mem_cons_of_mem _ (List.mem_cons_of_mem _ (List.mem_cons_of_mem _ (List.mem_cons_of_mem _ (List.mem_cons_self ..))))))
  dsimp only at h5
  rw [c2] at h5
  obtain ⟨a5, e5, g5⟩ := ty_i64 h5 Try.underlying2
  have e5 := drop_more e5 rfl
  have h6 := hf _ (List.mem_cons_of_mem _ (List.mem_cons_of_mem _ (List.mem_cons_of_mem _ (List.mem_cons_of_mem _ (List.mem_cons_of_mem _ (List.mem_cons_of_mem _ (List.mem_cons_self ..)))))))
  dsimp only at h6
  rw [c64] at h6
  obtain ⟨a6, e6, g6⟩ := ty_LDot h6
  have e6 := drop_more e6 rfl
  rw [drop_all' hl] at e6
  rw [e6] at e5
  rw [e5] at e4
  rw [e4] at e3
  rw [e3] at e2
  rw [e2] at e1
  rw [e1] at e0
  exact ⟨⟨a0, a1, a2, a3, a4, a5, a6⟩, by rw [List.drop_zero] at e0; rw [e0]; rfl, g0, g1, g2, g3, g4, g5, g6⟩
theorem ty_LEff {n : Nat} {xs : List AV} (h : TyC Try.prog n 24 xs) : ∃ a : List (Eff), xs = [.list (.agg 7) (a.map effA)] ∧ (a.length ≤ reachBytes ∧ ∀ y ∈ a, okEff y) := by
  obtain ⟨l, rfl, hl, hx⟩ := ty_slice h Try.underlying24
  have hs : shOf Try.prog 66 = .agg 7 := by rw [shOf_struct Try.underlying66, show Try.prog.cellsOf 66 = 7 by kernel_rfl]
  have hb : 1 ≤ Try.prog.bytesOf 66 := Nat.le_of_ble_eq_true (by kernel_rfl)
  rw [hs] at hx ⊢
  have : ∀ x ∈ l, ∃ a : Eff, x = effA a ∧ okEff a := by
    intro x hxl
    obtain ⟨ys, hy, rfl⟩ := hx x hxl
    obtain ⟨a, e1, g1⟩ := ty_Eff hy
    exact ⟨a, by rw [e1]; rfl, g1⟩
  obtain ⟨a, rfl, ha⟩ := list_of' this
  exact ⟨a, rfl, Nat.le_trans (by simpa using Nat.le_mul_of_pos_right (a.map effA).length hb) hl, ha⟩
theorem ty_Item {n : Nat} {xs : List AV} (h : TyC Try.prog n 68 xs) : ∃ a : Item, xs = itemC a ∧ okItem a := by
  obtain ⟨hl, hf⟩ := ty_struct h Try.underlying68
  have c9 : Try.prog.cellsOf 9 = 1 := by kernel_rfl
  have c3 : Try.prog.cellsOf 3 = 1 := by kernel_rfl
  have c2 : Try.prog.cellsOf 2 = 1 := by kernel_rfl
  have c47 : Try.prog.cellsOf 47 = 3 := by kernel_rfl
  have c68 : Try.prog.cellsOf 68 = 8 := by kernel_rfl
  rw [c68] at hl
  have h0 := hf _ (List.mem_cons_self ..)
  dsimp only at h0
  rw [c9] at h0
  obtain ⟨a0, e0, g0⟩ := ty_str h0 Try.underlying9
  have e0 := drop_more e0 rfl
  have h1 := hf _ (List.mem_cons_of_mem _ (List.mem_cons_self ..))
  dsimp only at h1
  rw [c9] at h1
  obtain ⟨a1, e1, g1⟩ := ty_str h1 Try.underlying9
  have e1 := drop_more e1 rfl
  have h2 := hf _ (List.mem_cons_of_mem _ (List.mem_cons_of_mem _ (List.mem_cons_self ..)))
  dsimp only at h2
  rw [c3] at h2
  obtain ⟨a2, e2, g2⟩ := ty_i64 h2 Try.underlying3
  have e2 := drop_more e2 rfl
  have h3 := hf _ (List.mem_cons_of_mem _ (List.mem_cons_of_mem _ (List.mem_cons_of_mem _ (List.mem_cons_self ..))))
  dsimp only at h3
  rw [c9] at h3
  obtain ⟨a3, e3, g3⟩ := ty_str h3 Try.underlying9
  have e3 := drop_more e3 rfl
  have h4 := hf _ (List.mem_cons_of_mem _ (List.mem_cons_of_mem _ (List.mem_cons_of_mem _ (List.mem_cons_of_mem _ (List.mem_cons_self ..)))))
  dsimp only at h4
  rw [c2] at h4
  obtain ⟨a4, e4, g4⟩ := ty_i64 h4 Try.underlying2
  have e4 := drop_more e4 rfl
  have h5 := hf _ (List.mem_cons_of_mem _ (List.mem_cons_of_mem _ (List.mem_cons_of_mem _ (List.mem_cons_of_mem _ (List.mem_cons_of_mem _ (List.mem_cons_self ..))))))
  dsimp only at h5
  rw [c47] at h5
  obtain ⟨a5, e5, g5⟩ := ty_Dot h5
  have e5 := drop_more e5 rfl
  rw [drop_all' hl] at e5
  rw [e5] at e4
  rw [e4] at e3
  rw [e3] at e2
  rw [e2] at e1
  rw [e1] at e0
  exact ⟨⟨a0, a1, a2, a3, a4, a5⟩, by rw [List.drop_zero] at e0; rw [e0]; rfl, g0, g1, g2, g3, g4, g5⟩
theorem ty_LItem {n : Nat} {xs : List AV} (h : TyC Try.prog n 52 xs) : ∃ a : List (Item), xs = [.list (.agg 8) (a.map itemA)] ∧ (a.length ≤ reachBytes ∧ ∀ y ∈ a, okItem y) := by
  obtain ⟨l, rfl, hl, hx⟩ := ty_slice h Try.underlying52
  have hs : shOf Try.prog 68 = .agg 8 := by rw [shOf_struct Try.underlying68, show Try.prog.cellsOf 68 = 8 by kernel_rfl]
  have hb : 1 ≤ Try.prog.bytesOf 68 := Nat.le_of_ble_eq_true (by kernel_rfl)
  rw [hs] at hx ⊢
  have : ∀ x ∈ l, ∃ a : Item, x = itemA a ∧ okItem a := by
    intro x hxl
    obtain ⟨ys, hy, rfl⟩ := hx x hxl
    obtain ⟨a, e1, g1⟩ := ty_Item hy
    exact ⟨a, by rw [e1]; rfl, g1⟩
  obtain ⟨a, rfl, ha⟩ := list_of' this
  exact ⟨a, rfl, Nat.le_trans (by simpa using Nat.le_mul_of_pos_right (a.map itemA).length hb) hl, ha⟩
end Go.Bv
