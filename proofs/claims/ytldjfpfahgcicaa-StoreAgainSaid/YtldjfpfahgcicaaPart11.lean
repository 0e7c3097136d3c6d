/- Part of the lift: an abstract walk of the program's code, proved sound, and what it shows of this program. -/
import Derived.Test.YtldjfpfahgcicaaPart8
import Derived.Test.YtldjfpfahgcicaaPart7
import Derived.Test.YtldjfpfahgcicaaPart10
namespace Go.Bv
set_option linter.unusedSimpArgs false
set_option linter.unusedVariables false
set_option maxHeartbeats 4000000
set_option maxRecDepth 20000
open Go Go.Proofs
theorem cloneI_walk (l : List Item) (hl : l.length ≤ 2 ^ 38) : ACalls Try.prog Nm.slices_Clone_api_Item_api_Item [itemsA l] [] (.own 0 0 l.length) [.row .vrow (.agg 8) (l.map itemA)] := by
  refine ACalls_of tab (dr_snd tab mixed) Nm.slices_Clone_api_Item_api_Item_h rfl (by kernel_rfl) (Nat.le_of_ble_eq_true rfl) rfl ?_
  refine NN.mk (fun h => ?_) ?_
  · have : l = [] := by simpa using h
    subst this
    exact NRet.ad [(2, .agg 8)] [0] rfl ⟨.refl _, rfl⟩
  · refine NFz.own ?_
    refine NApp.endA rfl (by simp; omega) ?_
    exact NRet.mk [1] rfl ⟨by rw [List.length_map]; exact .refl _, rfl⟩
theorem indexDot_walk (l : List Dot) (d : Dot) (hl : l.length ≤ 2 ^ 40) : ACalls Try.prog Nm.slices_Index_api_Dot_api_Dot [dotsA l, dotA d] [] (i64 (ixI (fun x => decide (d = x)) l)) [] := by
  refine ACalls_of tab (dr_snd tab mixed) Nm.slices_Index_api_Dot_api_Dot_h rfl (by kernel_rfl) (Nat.le_of_ble_eq_true rfl) rfl ?_
  skip
  refine NLoop.mk [] [0, 3, 6, 7, 8] (fun m vs H => ∃ i, i ≤ l.length ∧ m = l.length - i ∧ (∀ x ∈ l.take i, decide (d = x) = false) ∧ H = [.row .box (.agg 3) [dotA d]] ∧ vs = [dotsA l, .ptr 0 0 0, dotsA l, i64 l.length, i64 i]) rfl ?_ ?_
  · exact Canon.mk [0] rfl ⟨l.length, 0, Nat.zero_le _, rfl, by simp, rfl, by simp [dotsA, i64]⟩
  · rintro m vs H ⟨i, hi, rfl, ht, rfl, rfl⟩
    by_cases hil : i < l.length
    · obtain ⟨f1, f2⟩ := find_step hil ht
      by_cases hp : d = l[i]
      · rw [f1 (decide_eq_true hp)]
        have e1 : d.node = l[i].node := by rw [← hp]
        have e2 : d.seq = l[i].seq := by rw [← hp]
        have e3 : d.at' = l[i].at' := by rw [← hp]
        refine ND.yes (by omega) ?_
        refine NP.mk (by kernel_rfl) ?_
        apply NDr.rd [0]
        · intro fH TH
          exact ⟨rfl, rfl⟩
        apply NDr.pure
        · exact ⟨rfl, rfl⟩
        apply NDr.pure
        · exact ⟨rfl, rfl⟩
        apply NDr.pure
        · refine NP.mk (by omega) ?_
          refine NG.mapN (by omega) ?_
          exact ⟨rfl, rfl⟩
        apply NDr.pure
        · exact ⟨rfl, rfl⟩
        apply NDr.pure
        · refine ND.yes (by simp [*]) ?_
          exact ⟨rfl, rfl⟩
        refine NP.mk (by kernel_rfl) ?_
        exact NRet.mk [] rfl ⟨.refl _, rfl⟩
      · have hne : ¬ (d.node = l[i].node ∧ d.seq = l[i].seq ∧ d.at' = l[i].at') := fun h => hp (Dot.ext h.1 h.2.1 h.2.2)
        refine ND.yes (by omega) ?_
        refine NP.mk (by kernel_rfl) ?_
        apply NDr.rd [0]
        · intro fH TH
          exact ⟨rfl, rfl⟩
        apply NDr.pure
        · exact ⟨rfl, rfl⟩
        apply NDr.pure
        · exact ⟨rfl, rfl⟩
        apply NDr.pure
        · refine NP.mk (by omega) ?_
          refine NG.mapN (by omega) ?_
          exact ⟨rfl, rfl⟩
        apply NDr.pure
        · exact ⟨rfl, rfl⟩
        apply NDr.pure
        · refine ND.no (by simp [*]) ?_
          exact ⟨rfl, rfl⟩
        refine NP.mk (by kernel_rfl) ?_
        refine NW.i64 (by omega) (by omega) ?_
        exact Canon.mk [0] rfl ⟨l.length - (i + 1), by omega, i + 1, by omega, rfl, f2 (decide_eq_false hp), rfl, rfl⟩
    · have : i = l.length := by omega
      subst this
      rw [List.take_length] at ht
      rw [find_none ht]
      refine ND.no (by omega) ?_
      exact NRet.mk [] rfl ⟨.refl _, rfl⟩
theorem containsDot_walk (l : List Dot) (d : Dot) (hl : l.length ≤ 2 ^ 40) : ACalls Try.prog Nm.slices_Contains_api_Dot_api_Dot [dotsA l, dotA d] [] (.bool (decide (d ∈ l))) [] := by
  refine ACalls_of tab (dr_snd tab mixed) Nm.slices_Contains_api_Dot_api_Dot_h rfl (by kernel_rfl) (Nat.le_of_ble_eq_true rfl) rfl ?_
  have h1 := indexDot_walk l d hl
  have e : decide (d ∈ l) = decide (0 ≤ ixI (fun x => decide (d = x)) l) := by
    rw [← ixI_any]
    rw [Bool.eq_iff_iff]
    simp
  rw [e]
  by_cases h : 0 ≤ ixI (fun x => decide (d = x)) l
  · rw [decide_eq_true h]
    refine NCall.call (h1) rfl rfl ?_
    refine ND.yes (by omega) ?_
    exact NRet.mk [] rfl ⟨.refl _, rfl⟩
  · rw [decide_eq_false h]
    refine NCall.call (h1) rfl rfl ?_
    refine ND.no (by omega) ?_
    exact NRet.mk [] rfl ⟨.refl _, rfl⟩
theorem withoutF_walk (D : List Dot) (x : Item) (hD : D.length ≤ 2 ^ 40) : ACalls Try.prog Nm.item_Without_1 [itemA x, .ptr 0 0 0] [.row .box .leaf [dotsA D]] (.bool (decide (x.dot ∈ D))) [.row .box .leaf [dotsA D]] := by
  refine ACalls_of tab (dr_snd tab mixed) Nm.item_Without_1_h rfl (by kernel_rfl) (Nat.le_of_ble_eq_true rfl) rfl ?_
  refine NCall.call (containsDot_walk D x.dot hD) rfl rfl ?_
  exact NRet.mk [] rfl ⟨.refl _, rfl⟩
end Go.Bv
namespace Go.Bv
open Go Go.Proofs
def keepD (d : List Item → Item → Bool) (l : List Item) : List Item := l.foldl (fun k x => if d k x then k else k ++ [x]) []
theorem keepD_snoc (d : List Item → Item → Bool) (l : List Item) (x : Item) : keepD d (l ++ [x]) = if d (keepD d l) x then keepD d l else keepD d l ++ [x] := by
  unfold keepD; rw [List.foldl_append]; rfl
theorem keepD_take (d : List Item → Item → Bool) {l : List Item} {j : Nat} (h : j < l.length) : keepD d (l.take (j + 1)) = if d (keepD d (l.take j)) l[j] then keepD d (l.take j) else keepD d (l.take j) ++ [l[j]] := by
  rw [List.take_succ_eq_append_getElem h, keepD_snoc]
theorem keepD_none (d : List Item → Item → Bool) {l : List Item} : ∀ {i : Nat}, i ≤ l.length → (∀ (j : Nat) (h : j < l.length), j < i → d (l.take j) l[j] = false) → keepD d (l.take i) = l.take i
  | 0, _, _ => by simp [keepD]
  | i + 1, hi, h => by
    have ih := keepD_none d (i := i) (by omega) (fun j hj hji => h j hj (by omega))
    have hil : i < l.length := by omega
    rw [keepD_take d hil, ih, h i hil (by omega), if_neg (by simp), List.take_succ_eq_append_getElem hil]
theorem keepD_len (d : List Item → Item → Bool) {l : List Item} : ∀ {j : Nat}, j ≤ l.length → (keepD d (l.take j)).length ≤ j
  | 0, _ => by simp [keepD]
  | j + 1, h => by
    have ih := keepD_len d (l := l) (j := j) (by omega)
    rw [keepD_take d (by omega)]
    split
    · omega
    · rw [List.length_append, List.length_cons, List.length_nil]; omega
/-- Behind the first that is let go of there is room. -/
theorem keepD_lt (d : List Item → Item → Bool) {l : List Item} {i : Nat} (hi : i < l.length) (hd : d (keepD d (l.take i)) l[i] = true) : ∀ {j : Nat}, i < j → j ≤ l.length → (keepD d (l.take j)).length < j := by
  intro j hij hj
  induction j with
  | zero => omega
  | succ j ih =>
    rw [keepD_take d (by omega)]
    rcases Nat.lt_or_ge i j with h | h
    · have := ih h (by omega)
      split
      · omega
      · rw [List.length_append, List.length_cons, List.length_nil]; omega
    · obtain rfl : i = j := by omega
      rw [hd, if_pos rfl]
      have := keepD_len d (l := l) (j := i) (by omega)
      omega
theorem keepD_filter (p : Item → Bool) : ∀ (l : List Item), keepD (fun _ x => p x) l = l.filter fun x => !p x := by
  intro l
  have : ∀ (l k : List Item), l.foldl (fun k x => if p x then k else k ++ [x]) k = k ++ l.filter fun x => !p x := by
    intro l
    induction l with
    | nil => intro k; simp
    | cons x r ih =>
      intro k
      rw [List.foldl_cons, ih, List.filter_cons]
      cases p x <;> simp
  have h := this l []
  rw [List.nil_append] at h
  exact h
def hadI (k : List Item) (x : Item) : Bool := decide (x.dot ∈ k.map Item.dot)
theorem keepD_nub : ∀ (l : List Item), keepD hadI l = nubF [] l := by
  have : ∀ (l k : List Item) (s : List Dot), (∀ d, d ∈ s ↔ d ∈ k.map Item.dot) → l.foldl (fun k x => if hadI k x then k else k ++ [x]) k = k ++ nubF s l := by
    intro l
    induction l with
    | nil => intro k s _; simp [nubF]
    | cons x r ih =>
      intro k s hs
      rw [List.foldl_cons, nubF]
      by_cases h : x.dot ∈ s
      · have h' : hadI k x = true := decide_eq_true ((hs _).1 h)
        rw [if_pos h, h', if_pos rfl]
        exact ih k s hs
      · have h' : hadI k x = false := decide_eq_false fun k' => h ((hs _).2 k')
        rw [if_neg h, h', if_neg (by simp), ih (k ++ [x]) (x.dot :: s) (fun d => by
          rw [List.map_append, List.mem_append, List.mem_cons, hs]
          simp [or_comm]), List.append_assoc]
        rfl
  intro l
  have h := this l [] [] (by simp)
  rw [List.nil_append] at h
  exact h
theorem least_ex {P : Nat → Prop} : (∃ i, P i) → ∃ i, P i ∧ ∀ j, j < i → ¬ P j := by
  rintro ⟨i, hi⟩
  induction i using Nat.strongRecOn with
  | _ i ih =>
    by_cases h : ∃ j, j < i ∧ P j
    · obtain ⟨j, hj, hp⟩ := h
      exact ih j hj hp
    · exact ⟨i, hi, fun j hj hp => h ⟨j, hj, hp⟩⟩
def zI : AV := .agg [.str [], .str [], i64 0, .str [], i64 0, i64 0, i64 0, i64 0]
end Go.Bv
namespace Go.Bv
set_option linter.unusedSimpArgs false
set_option linter.unusedVariables false
set_option maxHeartbeats 4000000
set_option maxRecDepth 20000
open Go Go.Proofs
theorem indexA_none (g : Nat) (sh : Sh) (cs : List AV) (d : List Item → Item → Bool) (l : List Item) (hl : l.length ≤ 2 ^ 38) (hg : ∀ k x, ACalls Try.prog g [itemA x, .ptr 0 0 0] [.row .box .leaf [.list sh cs]] (.bool (d k x)) [.row .box .leaf [.list sh cs]])
    (hn : ∀ (j : Nat) (h : j < l.length), d (l.take j) l[j] = false) : ACalls Try.prog Nm.slices_IndexFunc_api_Item_api_Item [.own 0 0 l.length, .fn g [.ptr 1 0 0]] [.row .vrow (.agg 8) (l.map itemA), .row .box .leaf [.list sh cs]] (i64 (-1)) [.row .vrow (.agg 8) (l.map itemA), .row .box .leaf [.list sh cs]] := by
  refine ACalls_of tab (dr_snd tab mixed) Nm.slices_IndexFunc_api_Item_api_Item_h rfl (by kernel_rfl) (Nat.le_of_ble_eq_true rfl) rfl ?_
  refine NLoop.mk [] [0, 1, 6, 7, 8] (fun m vs H => ∃ i, i ≤ l.length ∧ m = l.length - i ∧ H = [.row .vrow (.agg 8) (l.map itemA), .row .box .leaf [.list sh cs]] ∧ vs = [.own 0 0 l.length, .fn g [.ptr 1 0 0], .own 0 0 l.length, i64 l.length, i64 i]) rfl ?_ ?_
  · exact Canon.mk [] rfl ⟨l.length, 0, Nat.zero_le _, rfl, rfl, rfl⟩
  · rintro m vs H ⟨i, hi, rfl, rfl, rfl⟩
    by_cases hil : i < l.length
    · have hc := hg (l.take i) l[i]
      rw [hn i hil] at hc
      try rw [if_neg (by simp), ← List.take_succ_eq_append_getElem hil] at hc
      refine ND.yes (by omega) ?_
      refine NP.mk (by (simp only [List.length_map, List.length_append, List.length_replicate, List.length_cons, List.length_nil, List.length_take, List.length_drop]; omega)) ?_
      refine NG.map0N (by omega) ?_
      refine NCall.subSame [1] (hc) ?_
      refine NW.i64 (by omega) (by omega) ?_
      exact Canon.mk [] rfl ⟨l.length - (i + 1), by omega, i + 1, by omega, rfl, rfl, rfl⟩
    · have : i = l.length := by omega
      subst this
      try rw [List.take_length]
      refine ND.no (by omega) ?_
      exact NRet.mk [] rfl ⟨.refl _, rfl⟩
theorem indexA_some (g : Nat) (sh : Sh) (cs : List AV) (d : List Item → Item → Bool) (l : List Item) (hl : l.length ≤ 2 ^ 38) (hg : ∀ k x, ACalls Try.prog g [itemA x, .ptr 0 0 0] [.row .box .leaf [.list sh cs]] (.bool (d k x)) [.row .box .leaf [.list sh cs]])
    (i0 : Nat) (h0 : i0 < l.length) (hn : ∀ (j : Nat) (h : j < l.length), j < i0 → d (l.take j) l[j] = false) (hd : d (l.take i0) l[i0] = true) : ACalls Try.prog Nm.slices_IndexFunc_api_Item_api_Item [.own 0 0 l.length, .fn g [.ptr 1 0 0]] [.row .vrow (.agg 8) (l.map itemA), .row .box .leaf [.list sh cs]] (i64 i0) [.row .vrow (.agg 8) (l.map itemA), .row .box .leaf [.list sh cs]] := by
  refine ACalls_of tab (dr_snd tab mixed) Nm.slices_IndexFunc_api_Item_api_Item_h rfl (by kernel_rfl) (Nat.le_of_ble_eq_true rfl) rfl ?_
  refine NLoop.mk [] [0, 1, 6, 7, 8] (fun m vs H => ∃ i, i ≤ i0 ∧ m = l.length - i ∧ H = [.row .vrow (.agg 8) (l.map itemA), .row .box .leaf [.list sh cs]] ∧ vs = [.own 0 0 l.length, .fn g [.ptr 1 0 0], .own 0 0 l.length, i64 l.length, i64 i]) rfl ?_ ?_
  · exact Canon.mk [] rfl ⟨l.length, 0, Nat.zero_le _, rfl, rfl, rfl⟩
  · rintro m vs H ⟨i, hi, rfl, rfl, rfl⟩
    have hil : i < l.length := by omega
    have hc := hg (l.take i) l[i]
    by_cases hii : i = i0
    · subst hii
      rw [hd] at hc
      try rw [if_pos rfl] at hc
      refine ND.yes (by omega) ?_
      refine NP.mk (by (simp only [List.length_map, List.length_append, List.length_replicate, List.length_cons, List.length_nil, List.length_take, List.length_drop]; omega)) ?_
      refine NG.map0N (by omega) ?_
      refine NCall.subSame [1] (hc) ?_
      exact NRet.mk [] rfl ⟨.refl _, rfl⟩
    · rw [hn i hil (by omega)] at hc
      try rw [if_neg (by simp), ← List.take_succ_eq_append_getElem hil] at hc
      refine ND.yes (by omega) ?_
      refine NP.mk (by (simp only [List.length_map, List.length_append, List.length_replicate, List.length_cons, List.length_nil, List.length_take, List.length_drop]; omega)) ?_
      refine NG.map0N (by omega) ?_
      refine NCall.subSame [1] (hc) ?_
      refine NW.i64 (by omega) (by omega) ?_
      exact Canon.mk [] rfl ⟨l.length - (i + 1), by omega, i + 1, by omega, rfl, rfl, rfl⟩
theorem deleteA_walk (g : Nat) (sh : Sh) (cs : List AV) (d : List Item → Item → Bool) (l : List Item) (hl : l.length ≤ 2 ^ 38) (hg : ∀ k x, ACalls Try.prog g [itemA x, .ptr 0 0 0] [.row .box .leaf [.list sh cs]] (.bool (d k x)) [.row .box .leaf [.list sh cs]]) :
    ACalls Try.prog Nm.slices_DeleteFunc_api_Item_api_Item [.own 0 0 l.length, .fn g [.ptr 1 0 0]] [.row .vrow (.agg 8) (l.map itemA), .row .box .leaf [.list sh cs]] (.own 0 0 (keepD d l).length)
      [.row .vrow (.agg 8) ((keepD d l).map itemA ++ List.replicate (l.length - (keepD d l).length) zI), .row .box .leaf [.list sh cs]] := by
  refine ACalls_of tab (dr_snd tab mixed) Nm.slices_DeleteFunc_api_Item_api_Item_h rfl (by kernel_rfl) (Nat.le_of_ble_eq_true rfl) rfl ?_
  by_cases hex : ∃ i, ∃ h : i < l.length, d (l.take i) l[i] = true
  · obtain ⟨i0, ⟨h0, hd⟩, hmin⟩ := least_ex hex
    have hn : ∀ (j : Nat) (h : j < l.length), j < i0 → d (l.take j) l[j] = false := fun j h hj => by simpa using fun k => hmin j hj ⟨h, k⟩
    have hk0 := keepD_none d (l := l) (i := i0) (by omega) hn
    have hk1 : keepD d (l.take (i0 + 1)) = l.take i0 := by rw [keepD_take d h0, hk0, hd, if_pos rfl]
    have hlt : ∀ {j : Nat}, i0 < j → j ≤ l.length → (keepD d (l.take j)).length < j := fun {j} => keepD_lt d h0 (by rw [hk0, hd])
    have k1 := indexA_some g sh cs d l hl hg i0 h0 hn hd
    refine NCall.atA (k1) ?_
    refine ND.no (by omega) ?_
    refine NW.i64 (by omega) (by omega) ?_
    refine NLoop.mk [] [0, 1, 5, 6] (fun m vs H => ∃ j, i0 < j ∧ j ≤ l.length ∧ m = l.length - j ∧ H = [.row .vrow (.agg 8) ((keepD d (l.take j) ++ l.drop (keepD d (l.take j)).length).map itemA), .row .box .leaf [.list sh cs]] ∧
      vs = [.own 0 0 l.length, .fn g [.ptr 1 0 0], i64 (keepD d (l.take j)).length, i64 j]) rfl ?_ ?_
    · refine Canon.mk [] rfl ⟨_, i0 + 1, by omega, by omega, rfl, ?_, ?_⟩
      · rw [hk1, List.length_take, Nat.min_eq_left (by omega), List.take_append_drop]
      · rw [hk1, List.length_take, Nat.min_eq_left (by omega)]; rfl
    rintro m vs H ⟨j, hij, hj, rfl, rfl, rfl⟩
    by_cases hjl : j < l.length
    · have hlt := hlt hij hj
      have hkt := keepD_take d hjl
      obtain ⟨K, hK⟩ : ∃ K, K = keepD d (l.take j) := ⟨_, rfl⟩
      rw [← hK] at hlt hkt ⊢
      have hc := hg K l[j]
      obtain ⟨R, hR⟩ : ∃ R, R = K ++ l.drop K.length := ⟨_, rfl⟩
      have hrl : R.length = l.length := by rw [hR, List.length_append, List.length_drop]; omega
      have hjR : j < R.length := by omega
      have hget : R[j] = l[j] := by
        simp only [hR]
        rw [List.getElem_append_right (by omega), List.getElem_drop]
        congr 1; omega
      have hKR : K.length < R.length := by omega
      rw [← hR]
      cases hp : d K l[j] with
      | true =>
        rw [hp] at hc hkt
        rw [if_pos rfl] at hkt
        try rw [if_pos rfl] at hc
        rw [← hget] at hc
        refine ND.yes (by omega) ?_
        refine NP.mk (by (simp only [List.length_map, List.length_append, List.length_replicate, List.length_cons, List.length_nil, List.length_take, List.length_drop]; omega)) ?_
        refine NG.map0N (by omega) ?_
        refine NCall.subSame [1] (hc) ?_
        refine NW.i64 (by omega) (by omega) ?_
        refine Canon.mk [] rfl ⟨l.length - (j + 1), by omega, j + 1, by omega, by omega, rfl, ?_, ?_⟩
        · rw [hkt, ← hR]
        · rw [hkt]; rfl
      | false =>
        rw [hp] at hc hkt
        rw [if_neg (by simp)] at hkt
        try rw [if_neg (by simp)] at hc
        rw [← hget] at hc
        refine ND.yes (by omega) ?_
        refine NP.mk (by (simp only [List.length_map, List.length_append, List.length_replicate, List.length_cons, List.length_nil, List.length_take, List.length_drop]; omega)) ?_
        refine NG.map0N (by omega) ?_
        refine NCall.subSame [1] (hc) ?_
        refine NP.mk (by (simp only [List.length_map, List.length_append, List.length_replicate, List.length_cons, List.length_nil, List.length_take, List.length_drop]; omega)) ?_
        refine NG.map0N (by omega) ?_
        refine NW.i64 (by omega) (by omega) ?_
        refine NW.i64 (by omega) (by omega) ?_
        refine Canon.mk [] rfl ⟨l.length - (j + 1), by omega, j + 1, by omega, by omega, rfl, ?_, ?_⟩
        · rw [hkt]
          have : (R.map itemA).set (0 + K.length) (itemA R[j]) = ((K ++ [l[j]]) ++ l.drop (K ++ [l[j]]).length).map itemA := by
            rw [hget, Nat.zero_add, ← List.map_set, hR, List.set_append, if_neg (by omega), Nat.sub_self, List.drop_eq_getElem_cons (by omega), List.set_cons_zero, List.append_assoc, List.length_append]
            rfl
          rw [← this]
          try rw [← hget]
          rfl
        · rw [hkt, List.length_append]; rfl
    · have : j = l.length := by omega
      subst this
      have hlt := hlt hij hj
      rw [List.take_length] at hlt ⊢
      obtain ⟨K, hK⟩ : ∃ K, K = keepD d l := ⟨_, rfl⟩
      rw [← hK] at hlt ⊢
      have hrl : (K ++ l.drop K.length).length = l.length := by rw [List.length_append, List.length_drop]; omega
      refine ND.no (by omega) ?_
      refine NSl.mid (by omega) ?_
      refine NP.mk (by (simp only [List.length_map, List.length_append, List.length_replicate, List.length_cons, List.length_nil, List.length_take, List.length_drop]; omega)) ?_
      refine NRet.mk [] rfl ⟨.refl _, ?_⟩
      rw [Int.toNat_natCast, Nat.zero_add, List.map_append, List.take_left' (by simp), List.drop_eq_nil_of_le (by rw [List.length_append, List.length_map, List.length_map, List.length_drop]; omega), List.append_nil]
      rfl
  · have hn : ∀ (j : Nat) (h : j < l.length), d (l.take j) l[j] = false := fun j h => by simpa using fun k => hex ⟨j, h, k⟩
    have hk : keepD d l = l := by
      have := keepD_none d (l := l) (i := l.length) (Nat.le_refl _) (fun j h _ => hn j h)
      rwa [List.take_length] at this
    have k1 := indexA_none g sh cs d l hl hg hn
    rw [hk]
    refine NCall.atA (k1) ?_
    refine ND.yes (by omega) ?_
    refine NRet.mk [] rfl ⟨.refl _, ?_⟩
    rw [Nat.sub_self, List.replicate_zero, List.append_nil]
def seenE (k : List Item) : List (AV × AV) := k.map fun x => (dotA x.dot, .bool true)
theorem indexB_none (g : Nat) (d : List Item → Item → Bool) (l : List Item) (hl : l.length ≤ 2 ^ 38) (hg : ∀ k x, ACalls Try.prog g [itemA x, .ptr 0 0 0] [.row .box .leaf [.map 1], .map (seenE k)] (.bool (d k x)) [.row .box .leaf [.map 1], .map (seenE (if d k x then k else k ++ [x]))])
    (hn : ∀ (j : Nat) (h : j < l.length), d (l.take j) l[j] = false) : ACalls Try.prog Nm.slices_IndexFunc_api_Item_api_Item [.own 0 0 l.length, .fn g [.ptr 1 0 0]] [.row .vrow (.agg 8) (l.map itemA), .row .box .leaf [.map 2], .map (seenE [])] (i64 (-1)) [.row .vrow (.agg 8) (l.map itemA), .row .box .leaf [.map 2], .map (seenE l)] := by
  refine ACalls_of tab (dr_snd tab mixed) Nm.slices_IndexFunc_api_Item_api_Item_h rfl (by kernel_rfl) (Nat.le_of_ble_eq_true rfl) rfl ?_
  refine NLoop.mk [] [0, 1, 6, 7, 8] (fun m vs H => ∃ i, i ≤ l.length ∧ m = l.length - i ∧ H = [.row .vrow (.agg 8) (l.map itemA), .row .box .leaf [.map 2], .map (seenE (l.take i))] ∧ vs = [.own 0 0 l.length, .fn g [.ptr 1 0 0], .own 0 0 l.length, i64 l.length, i64 i]) rfl ?_ ?_
  · exact Canon.mk [] rfl ⟨l.length, 0, Nat.zero_le _, rfl, rfl, rfl⟩
  · rintro m vs H ⟨i, hi, rfl, rfl, rfl⟩
    by_cases hil : i < l.length
    · have hc := hg (l.take i) l[i]
      rw [hn i hil] at hc
      try rw [if_neg (by simp), ← List.take_succ_eq_append_getElem hil] at hc
      refine ND.yes (by omega) ?_
      refine NP.mk (by (simp only [List.length_map, List.length_append, List.length_replicate, List.length_cons, List.length_nil, List.length_take, List.length_drop]; omega)) ?_
      refine NG.map0N (by omega) ?_
      refine NCall.subA [1, 2] (hc) ?_
      refine NW.i64 (by omega) (by omega) ?_
      exact Canon.mk [] rfl ⟨l.length - (i + 1), by omega, i + 1, by omega, rfl, rfl, rfl⟩
    · have : i = l.length := by omega
      subst this
      try rw [List.take_length]
      refine ND.no (by omega) ?_
      exact NRet.mk [] rfl ⟨.refl _, rfl⟩
theorem indexB_some (g : Nat) (d : List Item → Item → Bool) (l : List Item) (hl : l.length ≤ 2 ^ 38) (hg : ∀ k x, ACalls Try.prog g [itemA x, .ptr 0 0 0] [.row .box .leaf [.map 1], .map (seenE k)] (.bool (d k x)) [.row .box .leaf [.map 1], .map (seenE (if d k x then k else k ++ [x]))])
    (i0 : Nat) (h0 : i0 < l.length) (hn : ∀ (j : Nat) (h : j < l.length), j < i0 → d (l.take j) l[j] = false) (hd : d (l.take i0) l[i0] = true) : ACalls Try.prog Nm.slices_IndexFunc_api_Item_api_Item [.own 0 0 l.length, .fn g [.ptr 1 0 0]] [.row .vrow (.agg 8) (l.map itemA), .row .box .leaf [.map 2], .map (seenE [])] (i64 i0) [.row .vrow (.agg 8) (l.map itemA), .row .box .leaf [.map 2], .map (seenE (l.take i0))] := by
  refine ACalls_of tab (dr_snd tab mixed) Nm.slices_IndexFunc_api_Item_api_Item_h rfl (by kernel_rfl) (Nat.le_of_ble_eq_true rfl) rfl ?_
  refine NLoop.mk [] [0, 1, 6, 7, 8] (fun m vs H => ∃ i, i ≤ i0 ∧ m = l.length - i ∧ H = [.row .vrow (.agg 8) (l.map itemA), .row .box .leaf [.map 2], .map (seenE (l.take i))] ∧ vs = [.own 0 0 l.length, .fn g [.ptr 1 0 0], .own 0 0 l.length, i64 l.length, i64 i]) rfl ?_ ?_
  · exact Canon.mk [] rfl ⟨l.length, 0, Nat.zero_le _, rfl, rfl, rfl⟩
  · rintro m vs H ⟨i, hi, rfl, rfl, rfl⟩
    have hil : i < l.length := by omega
    have hc := hg (l.take i) l[i]
    by_cases hii : i = i0
    · subst hii
      rw [hd] at hc
      try rw [if_pos rfl] at hc
      refine ND.yes (by omega) ?_
      refine NP.mk (by (simp only [List.length_map, List.length_append, List.length_replicate, List.length_cons, List.length_nil, List.length_take, List.length_drop]; omega)) ?_
      refine NG.map0N (by omega) ?_
      refine NCall.subSame [1, 2] (hc) ?_
      exact NRet.mk [] rfl ⟨.refl _, rfl⟩
    · rw [hn i hil (by omega)] at hc
      try rw [if_neg (by simp), ← List.take_succ_eq_append_getElem hil] at hc
      refine ND.yes (by omega) ?_
      refine NP.mk (by (simp only [List.length_map, List.length_append, List.length_replicate, List.length_cons, List.length_nil, List.length_take, List.length_drop]; omega)) ?_
      refine NG.map0N (by omega) ?_
      refine NCall.subA [1, 2] (hc) ?_
      refine NW.i64 (by omega) (by omega) ?_
      exact Canon.mk [] rfl ⟨l.length - (i + 1), by omega, i + 1, by omega, rfl, rfl, rfl⟩
theorem deleteB_walk (g : Nat) (d : List Item → Item → Bool) (l : List Item) (hl : l.length ≤ 2 ^ 38) (hg : ∀ k x, ACalls Try.prog g [itemA x, .ptr 0 0 0] [.row .box .leaf [.map 1], .map (seenE k)] (.bool (d k x)) [.row .box .leaf [.map 1], .map (seenE (if d k x then k else k ++ [x]))]) :
    ACalls Try.prog Nm.slices_DeleteFunc_api_Item_api_Item [.own 0 0 l.length, .fn g [.ptr 1 0 0]] [.row .vrow (.agg 8) (l.map itemA), .row .box .leaf [.map 2], .map (seenE [])] (.own 0 0 (keepD d l).length)
      [.row .vrow (.agg 8) ((keepD d l).map itemA ++ List.replicate (l.length - (keepD d l).length) zI), .row .box .leaf [.map 2], .map (seenE (keepD d l))] := by
  refine ACalls_of tab (dr_snd tab mixed) Nm.slices_DeleteFunc_api_Item_api_Item_h rfl (by kernel_rfl) (Nat.le_of_ble_eq_true rfl) rfl ?_
  by_cases hex : ∃ i, ∃ h : i < l.length, d (l.take i) l[i] = true
  · obtain ⟨i0, ⟨h0, hd⟩, hmin⟩ := least_ex hex
    have hn : ∀ (j : Nat) (h : j < l.length), j < i0 → d (l.take j) l[j] = false := fun j h hj => by simpa using fun k => hmin j hj ⟨h, k⟩
    have hk0 := keepD_none d (l := l) (i := i0) (by omega) hn
    have hk1 : keepD d (l.take (i0 + 1)) = l.take i0 := by rw [keepD_take d h0, hk0, hd, if_pos rfl]
    have hlt : ∀ {j : Nat}, i0 < j → j ≤ l.length → (keepD d (l.take j)).length < j := fun {j} => keepD_lt d h0 (by rw [hk0, hd])
    have k1 := indexB_some g d l hl hg i0 h0 hn hd
    refine NCall.atA (k1) ?_
    refine ND.no (by omega) ?_
    refine NW.i64 (by omega) (by omega) ?_
    refine NLoop.mk [] [0, 1, 5, 6] (fun m vs H => ∃ j, i0 < j ∧ j ≤ l.length ∧ m = l.length - j ∧ H = [.row .vrow (.agg 8) ((keepD d (l.take j) ++ l.drop (keepD d (l.take j)).length).map itemA), .row .box .leaf [.map 2], .map (seenE (keepD d (l.take j)))] ∧
      vs = [.own 0 0 l.length, .fn g [.ptr 1 0 0], i64 (keepD d (l.take j)).length, i64 j]) rfl ?_ ?_
    · refine Canon.mk [] rfl ⟨_, i0 + 1, by omega, by omega, rfl, ?_, ?_⟩
      · rw [hk1, List.length_take, Nat.min_eq_left (by omega), List.take_append_drop]
      · rw [hk1, List.length_take, Nat.min_eq_left (by omega)]; rfl
    rintro m vs H ⟨j, hij, hj, rfl, rfl, rfl⟩
    by_cases hjl : j < l.length
    · have hlt := hlt hij hj
      have hkt := keepD_take d hjl
      obtain ⟨K, hK⟩ : ∃ K, K = keepD d (l.take j) := ⟨_, rfl⟩
      rw [← hK] at hlt hkt ⊢
      have hc := hg K l[j]
      obtain ⟨R, hR⟩ : ∃ R, R = K ++ l.drop K.length := ⟨_, rfl⟩
      have hrl : R.length = l.length := by rw [hR, List.length_append, List.length_drop]; omega
      have hjR : j < R.length := by omega
      have hget : R[j] = l[j] := by
        simp only [hR]
        rw [List.getElem_append_right (by omega), List.getElem_drop]
        congr 1; omega
      have hKR : K.length < R.length := by omega
      rw [← hR]
      cases hp : d K l[j] with
      | true =>
        rw [hp] at hc hkt
        rw [if_pos rfl] at hkt
        try rw [if_pos rfl] at hc
        rw [← hget] at hc
        refine ND.yes (by omega) ?_
        refine NP.mk (by (simp only [List.length_map, List.length_append, List.length_replicate, List.length_cons, List.length_nil, List.length_take, List.length_drop]; omega)) ?_
        refine NG.map0N (by omega) ?_
        refine NCall.subSame [1, 2] (hc) ?_
        refine NW.i64 (by omega) (by omega) ?_
        refine Canon.mk [] rfl ⟨l.length - (j + 1), by omega, j + 1, by omega, by omega, rfl, ?_, ?_⟩
        · rw [hkt, ← hR]
        · rw [hkt]; rfl
      | false =>
        rw [hp] at hc hkt
        rw [if_neg (by simp)] at hkt
        try rw [if_neg (by simp)] at hc
        rw [← hget] at hc
        refine ND.yes (by omega) ?_
        refine NP.mk (by (simp only [List.length_map, List.length_append, List.length_replicate, List.length_cons, List.length_nil, List.length_take, List.length_drop]; omega)) ?_
        refine NG.map0N (by omega) ?_
        refine NCall.subA [1, 2] (hc) ?_
        refine NP.mk (by (simp only [List.length_map, List.length_append, List.length_replicate, List.length_cons, List.length_nil, List.length_take, List.length_drop]; omega)) ?_
        refine NG.map0N (by omega) ?_
        refine NW.i64 (by omega) (by omega) ?_
        refine NW.i64 (by omega) (by omega) ?_
        refine Canon.mk [] rfl ⟨l.length - (j + 1), by omega, j + 1, by omega, by omega, rfl, ?_, ?_⟩
        · rw [hkt]
          have : (R.map itemA).set (0 + K.length) (itemA R[j]) = ((K ++ [l[j]]) ++ l.drop (K ++ [l[j]]).length).map itemA := by
            rw [hget, Nat.zero_add, ← List.map_set, hR, List.set_append, if_neg (by omega), Nat.sub_self, List.drop_eq_getElem_cons (by omega), List.set_cons_zero, List.append_assoc, List.length_append]
            rfl
          rw [← this]
          try rw [← hget]
          rfl
        · rw [hkt, List.length_append]; rfl
    · have : j = l.length := by omega
      subst this
      have hlt := hlt hij hj
      rw [List.take_length] at hlt ⊢
      obtain ⟨K, hK⟩ : ∃ K, K = keepD d l := ⟨_, rfl⟩
      rw [← hK] at hlt ⊢
      have hrl : (K ++ l.drop K.length).length = l.length := by rw [List.length_append, List.length_drop]; omega
      refine ND.no (by omega) ?_
      refine NSl.mid (by omega) ?_
      refine NP.mk (by (simp only [List.length_map, List.length_append, List.length_replicate, List.length_cons, List.length_nil, List.length_take, List.length_drop]; omega)) ?_
      refine NRet.mk [] rfl ⟨.refl _, ?_⟩
      rw [Int.toNat_natCast, Nat.zero_add, List.map_append, List.take_left' (by simp), List.drop_eq_nil_of_le (by rw [List.length_append, List.length_map, List.length_map, List.length_drop]; omega), List.append_nil]
      rfl
  · have hn : ∀ (j : Nat) (h : j < l.length), d (l.take j) l[j] = false := fun j h => by simpa using fun k => hex ⟨j, h, k⟩
    have hk : keepD d l = l := by
      have := keepD_none d (l := l) (i := l.length) (Nat.le_refl _) (fun j h _ => hn j h)
      rwa [List.take_length] at this
    have k1 := indexB_none g d l hl hg hn
    rw [hk]
    refine NCall.atA (k1) ?_
    refine ND.yes (by omega) ?_
    refine NRet.mk [] rfl ⟨.refl _, ?_⟩
    rw [Nat.sub_self, List.replicate_zero, List.append_nil]
end Go.Bv
namespace Go.Bv
set_option linter.unusedSimpArgs false
set_option linter.unusedVariables false
set_option maxHeartbeats 4000000
set_option maxRecDepth 20000
open Go Go.Proofs
theorem keyEq_dot (a b : Dot) : keyEq [0, 0, 0] (dotA a) (dotA b) = some (decide (a = b)) := by
  rw [dot_dec]
  simp only [keyEq, dotA, dotC, allEqA, leafEqA, i64, kindBeq, Bool.and_true]
theorem seenE_get (k : List Item) (i : Nat) : (seenE k)[i]? = (k[i]?).map fun x => (dotA x.dot, AV.bool true) := by unfold seenE; rw [List.getElem?_map]
/-- Where a dot stands in the map of those seen. -/
theorem NFind.seen {k : List Item} {d : Dot} {T : Nat → AV → Prop} {E : Prop} (h1 : d ∈ k.map Item.dot → ∀ i, (seenE k)[i]? = some (dotA d, .bool true) → T i (.bool true)) (h2 : d ∉ k.map Item.dot → E) : NFind [0, 0, 0] (seenE k) (dotA d) T E := by
  by_cases h : d ∈ k.map Item.dot
  · have hex : ∃ i : Nat, ∃ x : Item, k[i]? = some x ∧ x.dot = d := by
      obtain ⟨x, hx, rfl⟩ := List.mem_map.1 h
      obtain ⟨i, hi⟩ := List.getElem?_of_mem hx
      exact ⟨i, x, hi, rfl⟩
    obtain ⟨i, ⟨x, hx, rfl⟩, hmin⟩ := least_ex hex
    have hi : (seenE k)[i]? = some (dotA x.dot, .bool true) := by rw [seenE_get, hx]; rfl
    refine .hit i (dotA x.dot) (.bool true) hi (by rw [keyEq_dot]; simp) (fun j hj k' v' hjj => ?_) (h1 h i hi)
    rw [seenE_get] at hjj
    cases hkj : k[j]? with
    | none => rw [hkj] at hjj; simp at hjj
    | some y =>
      rw [hkj] at hjj
      simp only [Option.map_some, Option.some.injEq, Prod.mk.injEq] at hjj
      rw [← hjj.1, keyEq_dot, decide_eq_false]
      exact fun e => hmin j hj ⟨y, hkj, e.symm⟩
  · refine .miss (fun j k' v' hjj => ?_) (h2 h)
    rw [seenE_get] at hjj
    cases hkj : k[j]? with
    | none => rw [hkj] at hjj; simp at hjj
    | some y =>
      rw [hkj] at hjj
      simp only [Option.map_some, Option.some.injEq, Prod.mk.injEq] at hjj
      rw [← hjj.1, keyEq_dot, decide_eq_false]
      exact fun e => h (List.mem_map.2 ⟨y, List.mem_of_getElem? hkj, e.symm⟩)
theorem set_same {α : Type} {l : List α} {i : Nat} {x : α} (h : l[i]? = some x) : l.set i x = l := by
  obtain ⟨hi, rfl⟩ := List.getElem?_eq_some_iff.1 h
  exact List.set_getElem_self hi
theorem normF_walk (k : List Item) (x : Item) : ACalls Try.prog Nm.item_Norm_1 [itemA x, .ptr 0 0 0] [.row .box .leaf [.map 1], .map (seenE k)] (.bool (hadI k x)) [.row .box .leaf [.map 1], .map (seenE (if hadI k x then k else k ++ [x]))] := by
  refine ACalls_of tab (dr_snd tab mixed) Nm.item_Norm_1_h rfl (by kernel_rfl) (Nat.le_of_ble_eq_true rfl) rfl ?_
  cases hp : hadI k x with
  | true =>
    have hm : x.dot ∈ k.map Item.dot := of_decide_eq_true hp
    skip
    refine NFind.seen (d := x.dot) (fun _ i hi => ?_) (fun h => absurd hm h)
    skip
    refine NFind.seen (d := x.dot) (fun _ i hi => ?_) (fun h => absurd hm h)
    have e1 : (seenE k).set i (dotA x.dot, .bool true) = seenE k := set_same hi
    skip
    exact NRet.mk [] rfl ⟨.refl _, by rw [if_pos rfl]; exact congrArg (fun m => [Blk.row .box .leaf [.map 1], .map m]) e1.symm⟩
  | false =>
    have hm : x.dot ∉ k.map Item.dot := of_decide_eq_false hp
    skip
    refine NFind.seen (d := x.dot) (fun h => absurd h hm) (fun _ => ?_)
    skip
    refine NFind.seen (d := x.dot) (fun h => absurd h hm) (fun _ => ?_)
    skip
    refine NRet.mk [] rfl ⟨.refl _, ?_⟩
    rw [if_neg (by simp)]
    unfold seenE
    rw [List.map_append]
    rfl
theorem without_own (l : List Item) (D : List Dot) (hl : l.length ≤ 2 ^ 38) (hD : D.length ≤ 2 ^ 40) : ACalls Try.prog Nm.item_Without [itemsA l, dotsA D] [] (.own 0 0 (without l D).length) [.row .vrow (.agg 8) ((without l D).map itemA ++ List.replicate (l.length - (without l D).length) zI)] := by
  refine ACalls_of tab (dr_snd tab mixed) Nm.item_Without_h rfl (by kernel_rfl) (Nat.le_of_ble_eq_true rfl) rfl ?_
  have k1 := cloneI_walk l hl
  have k2 := deleteA_walk Nm.item_Without_1 (.agg 3) (D.map dotA) (fun _ x => decide (x.dot ∈ D)) l hl (fun _ x => withoutF_walk D x hD)
  have e : keepD (fun _ x => decide (x.dot ∈ D)) l = without l D := by
    rw [keepD_filter]
    unfold without
    congr 1; funext x
    by_cases h : x.dot ∈ D <;> simp [h]
  rw [e] at k2
  refine NCall.atA (ACalls.frame (k1) rfl _) ?_
  refine NCall.subA [1, 0] (k2) ?_
  exact NRet.mk [1] rfl ⟨.refl _, rfl⟩
end Go.Bv
namespace Go.Bv
set_option linter.unusedSimpArgs false
set_option linter.unusedVariables false
set_option maxHeartbeats 4000000
set_option maxRecDepth 20000
open Go Go.Proofs
theorem sortFunc_walk (l : List Item) (hl : l.length ≤ 60000) : ACalls Try.prog Nm.slices_SortFunc_api_Item_api_Item [.own 0 0 l.length, .fn Nm.item_compare []] [.row .vrow (.agg 8) (l.map itemA)] (.tup []) [.row .vrow (.agg 8) ((isort l).map itemA)] := by
  refine ACalls_of tab (dr_snd tab mixed) Nm.slices_SortFunc_api_Item_api_Item_h rfl (by kernel_rfl) (Nat.le_of_ble_eq_true rfl) rfl ?_
  have h1 := len_walk l.length (by omega)
  have hb := (Go.Sort.bitsLen_le_iff l.length 16).2 (by omega)
  have h2 := pdq_walk l.length l 0 l.length (Go.Sort.bitsLen l.length) (by omega) (by omega) (Nat.le_refl _) hl (by omega) (Or.inl rfl)
  rw [pdq_isort] at h2
  have e : IntKind.wrap .u64 (l.length : Int) = (l.length : Int) := by rw [wrap_u64]; omega
  refine NW.mk _ rfl ?_
  rw [(e)]
  refine NCall.call (h1) rfl rfl ?_
  refine NCall.atA (h2) ?_
  exact NRet.mk [] rfl ⟨.refl _, rfl⟩
theorem isort_len (l : List Item) : (isort l).length = l.length := (isort_perm l).length_eq
theorem norm_len (l : List Item) : (norm l).length ≤ l.length := by
  unfold norm
  rw [← isort_len l]
  exact (nubF_sub _ _).length_le
theorem norm_own (l : List Item) (hl : l.length ≤ 60000) : ACalls Try.prog Nm.item_Norm [itemsA l] [] (.own 0 0 (norm l).length) [.row .vrow (.agg 8) ((norm l).map itemA ++ List.replicate (l.length - (norm l).length) zI)] := by
  refine ACalls_of tab (dr_snd tab mixed) Nm.item_Norm_h rfl (by kernel_rfl) (Nat.le_of_ble_eq_true rfl) rfl ?_
  have k1 := cloneI_walk l (by omega)
  have k2 := sortFunc_walk l hl
  have k3 := deleteB_walk Nm.item_Norm_1 hadI (isort l) (by rw [isort_len]; omega) (fun k x => normF_walk k x)
  rw [keepD_nub, isort_len] at k3
  rw [show nubF [] (isort l) = norm l from rfl] at k3
  refine NCall.atA (ACalls.frame (k1) rfl _) ?_
  refine NCall.atA (k2) ?_
  refine NCall.subA [0, 2, 1] (k3) ?_
  exact NRet.mk [0] rfl ⟨.refl _, rfl⟩
/-- A row that holds a list and more, as the list. -/
theorem norm_list (l : List Item) (hl : l.length ≤ 60000) : ACalls Try.prog Nm.item_Norm [itemsA l] [] (itemsA (norm l)) [] :=
  (norm_own l hl).drop (.val (.own trivial rfl (by simp) (by simp) (by rw [List.drop_zero, List.take_left' (by simp)])) rfl (fun _ => by simp [itemsA]) (fun _ => by simp [itemsA]))
theorem without_len (l : List Item) (D : List Dot) : (without l D).length ≤ l.length := List.length_filter_le _ _
theorem doE_len (n s : Int) (l : List Item) (e : Eff) : (doE n s l e).length ≤ l.length + 1 := by
  have h1 := norm_len (rawE n s l e)
  have h2 := without_len l e.drops
  unfold doE
  refine Nat.le_trans h1 ?_
  unfold rawE madeL
  rw [List.length_append]
  split <;> simp only [List.length_nil, List.length_cons] <;> omega
theorem do_walk (l : List Item) (n s : Int) (es : List Eff) (hl : l.length ≤ 50000) (he : es.length ≤ 5000) (hx : ∀ e ∈ es, smEff e) : ACalls Try.prog Nm.eff_Do [itemsA l, i64 n, i64 s, effsA es] [] (itemsA (doL n s l es)) [] := by
  refine ACalls_of tab (dr_snd tab mixed) Nm.eff_Do_h rfl (by kernel_rfl) (Nat.le_of_ble_eq_true rfl) rfl ?_
  have k1 := cloneI_walk l (by omega)
  refine NCall.atA (ACalls.frame (k1) rfl _) ?_
  refine NLoop.mk [] [1, 2, 9, 14, 15, 16] (fun m vs H => ∃ (i : Nat) (junk : List AV), i ≤ es.length ∧ m = es.length - i ∧ (doL n s l (es.take i)).length ≤ l.length + i ∧ H = [.row .vrow (.agg 8) ((doL n s l (es.take i)).map itemA ++ junk)] ∧
    vs = [i64 n, i64 s, .own 0 0 (doL n s l (es.take i)).length, effsA es, i64 es.length, i64 i]) rfl ?_ ?_
  · exact Canon.mk [0] rfl ⟨es.length, 0, [], Nat.zero_le _, rfl, Nat.le_refl _, by rw [List.append_nil]; rfl, by rw [List.length_map]; rfl⟩
  rintro m vs H ⟨i, junk, hi, rfl, hlen, rfl, rfl⟩
  by_cases hil : i < es.length
  · have hs := hx _ (List.getElem_mem hil)
    have hstep : doL n s l (es.take (i + 1)) = doE n s (doL n s l (es.take i)) es[i] := by
      unfold doL
      rw [List.take_succ_eq_append_getElem hil, List.foldl_append]; rfl
    have hlen2 := doE_len n s (doL n s l (es.take i)) es[i]
    rw [← hstep] at hlen2
    have hw := without_len (doL n s l (es.take i)) es[i].drops
    have k2 := without_own (doL n s l (es.take i)) es[i].drops (by omega) hs.2.2.2
    have k3 := made_walk n s es[i]
    have k4 := norm_own (rawE n s (doL n s l (es.take i)) es[i]) (by
      unfold rawE madeL
      rw [List.length_append]
      split <;> simp only [List.length_nil, List.length_cons] <;> omega)
    rw [show norm (rawE n s (doL n s l (es.take i)) es[i]) = doL n s l (es.take (i + 1)) from hstep.symm] at k4
    have htk : ∀ (w : List Item) (X : List AV), List.take w.length (w.map itemA ++ X) = w.map itemA := fun w X => List.take_left' (by simp)
    obtain ⟨cur, hcur⟩ : ∃ c, c = doL n s l (es.take i) := ⟨_, rfl⟩
    rw [← hcur] at k2 k4 hw hlen ⊢
    unfold rawE madeL at k4
    obtain ⟨nxt, hnxt⟩ : ∃ c, c = doL n s l (es.take (i + 1)) := ⟨_, rfl⟩
    rw [← hnxt] at k4 hlen2
    rw [← hcur] at hlen2
    generalize without cur es[i].drops = w at *
    by_cases hk : es[i].kind = 0
    · rw [if_pos hk, List.append_nil] at k4
      refine ND.yes (by omega) ?_
      refine NP.mk (by omega) ?_
      refine NG.mapN (by omega) ?_
      refine NCall.roA [0] ?_
      rw [(htk cur junk)]
      refine NCall.atA (ACalls.frame (k2) rfl _) ?_
      refine ND.yes (by omega) ?_
      refine NCall.roA [2] ?_
      rw [(htk w _)]
      refine NCall.atA (ACalls.frame (k4) rfl _) ?_
      refine NW.i64 (by omega) (by omega) ?_
      exact Canon.mk [3] rfl ⟨es.length - (i + 1), by omega, i + 1, List.replicate (w.length - nxt.length) zI, by omega, rfl, by rw [← hnxt]; omega, by subst hnxt; rfl, by subst hnxt; rfl⟩
    · rw [if_neg hk] at k4
      obtain ⟨x, hxe⟩ : ∃ x, x = made n s es[i] := ⟨_, rfl⟩
      rw [← hxe] at k4 k3
      rw [show itemsA (w ++ [x]) = .list (.agg 8) (w.map itemA ++ [itemA x]) by simp [itemsA]] at k4
      by_cases hwe : cur.length - w.length = 0
      · rw [hwe, List.replicate_zero, List.append_nil] at k2
        refine ND.yes (by omega) ?_
        refine NP.mk (by omega) ?_
        refine NG.mapN (by omega) ?_
        refine NCall.roA [0] ?_
        rw [(htk cur junk)]
        refine NCall.atA (ACalls.frame (k2) rfl _) ?_
        refine ND.no (by omega) ?_
        refine NCall.call (k3) rfl rfl ?_
        refine NFz.own ?_
        refine NApp.endA (by simp) (by simp; omega) ?_
        refine NCall.roA [3] ?_
        rw [(tl0 _)]
        refine NCall.atA (ACalls.frame (k4) rfl _) ?_
        refine NW.i64 (by omega) (by omega) ?_
        exact Canon.mk [4] rfl ⟨es.length - (i + 1), by omega, i + 1, List.replicate ((w ++ [x]).length - nxt.length) zI, by omega, rfl, by rw [← hnxt]; omega, by subst hnxt; rfl, by subst hnxt; rfl⟩
      · obtain ⟨c, hc⟩ : ∃ c, cur.length - w.length = c + 1 := ⟨cur.length - w.length - 1, by omega⟩
        rw [hc] at k2
        have htk2 : List.take (w.length + 1) (w.map itemA ++ itemA x :: List.replicate c zI) = w.map itemA ++ [itemA x] := by
          rw [show w.map itemA ++ itemA x :: List.replicate c zI = (w.map itemA ++ [itemA x]) ++ List.replicate c zI by simp]
          exact List.take_left' (by simp)
        refine ND.yes (by omega) ?_
        refine NP.mk (by omega) ?_
        refine NG.mapN (by omega) ?_
        refine NCall.roA [0] ?_
        rw [(htk cur junk)]
        refine NCall.atA (ACalls.frame (k2) rfl _) ?_
        refine ND.no (by omega) ?_
        refine NCall.call (k3) rfl rfl ?_
        refine NFz.own ?_
        refine NApp.inA (es' := w.map itemA ++ itemA x :: List.replicate c zI) (by simp) ?_ rfl ?_ rfl
        rotate_left
        · have hd : List.drop (0 + w.length + 1) (w.map itemA ++ List.replicate (c + 1) zI) = List.replicate c zI := by
            rw [List.drop_append, List.drop_eq_nil_of_le (by simp), List.nil_append, List.length_map, show 0 + w.length + 1 - w.length = 1 by omega]; rfl
          show List.take (0 + w.length) (w.map itemA ++ List.replicate (c + 1) zI) ++ ([itemA x] ++ List.drop (0 + w.length + 1) (w.map itemA ++ List.replicate (c + 1) zI)) = _
          rw [hd, Nat.zero_add, List.take_left' (by simp)]; rfl
        refine NCall.roA [2] ?_
        rw [(htk2)]
        refine NCall.atA (ACalls.frame (k4) rfl _) ?_
        refine NW.i64 (by omega) (by omega) ?_
        exact Canon.mk [3] rfl ⟨es.length - (i + 1), by omega, i + 1, List.replicate ((w ++ [x]).length - nxt.length) zI, by omega, rfl, by rw [← hnxt]; omega, by subst hnxt; rfl, by subst hnxt; rfl⟩
  · have : i = es.length := by omega
    subst this
    rw [List.take_length]
    refine ND.no (by omega) ?_
    exact NRet.mk [] rfl (NFrz.mk ((doL n s l es).map itemA) (by simp) (by rw [List.drop_zero, List.take_left' (by simp)]) ⟨.refl _, rfl⟩)
end Go.Bv
namespace Go.Bv
set_option linter.unusedSimpArgs false
set_option linter.unusedVariables false
set_option maxHeartbeats 4000000
open Go Go.Proofs
theorem equalV_walk (a b : List Int) (ha : a.length ≤ 2 ^ 40) : ACalls Try.prog Nm.slices_Equal_api_Vec_int [ints a, ints b] [] (.bool (decide (a = b))) [] := by
  refine ACalls_of tab (dr_snd tab mixed) Nm.slices_Equal_api_Vec_int_h rfl (by kernel_rfl) (Nat.le_of_ble_eq_true rfl) rfl ?_
  by_cases hl : a.length = b.length
  · refine ND.yes (by (simp only [List.length_map, List.length_append, List.length_replicate, List.length_cons, List.length_nil, List.length_take, List.length_drop]; omega)) ?_
    refine NLoop.mk [] [0, 1, 11, 12, 13] (fun m vs H => ∃ i, i ≤ a.length ∧ m = a.length - i ∧ a.take i = b.take i ∧ H = [] ∧ vs = [ints a, ints b, ints a, i64 a.length, i64 i]) rfl ?_ ?_
    · exact Canon.mk [] rfl ⟨a.length, 0, Nat.zero_le _, rfl, rfl, rfl, by simp [ints, i64]⟩
    · rintro m vs H ⟨i, hi, rfl, ht, rfl, rfl⟩
      by_cases hil : i < a.length
      · have hib : i < b.length := by omega
        by_cases he : a[i] = b[i]
        · refine ND.yes (by omega) ?_
          refine NP.mk (by kernel_rfl) ?_
          apply NDr.pure
          · exact ⟨rfl, rfl⟩
          apply NDr.pure
          · exact ⟨rfl, rfl⟩
          apply NDr.pure
          · refine NP.mk (by omega) ?_
            refine NG.mapN (by omega) ?_
            exact ⟨rfl, rfl⟩
          apply NDr.pure
          · exact ⟨rfl, rfl⟩
          apply NDr.pure
          · exact ⟨rfl, rfl⟩
          apply NDr.pure
          · exact ⟨rfl, rfl⟩
          apply NDr.pure
          · refine NP.mk (by omega) ?_
            refine NG.mapN (by omega) ?_
            exact ⟨rfl, rfl⟩
          apply NDr.pure
          · exact ⟨rfl, rfl⟩
          apply NDr.pure
          · refine ND.yes (by omega) ?_
            exact ⟨rfl, rfl⟩
          refine NP.mk (by kernel_rfl) ?_
          refine NW.i64 (by omega) (by omega) ?_
          exact Canon.mk [] rfl ⟨a.length - (i + 1), by omega, i + 1, by omega, rfl, take_eq_next ht hil hib he, rfl, rfl⟩
        · rw [decide_eq_false fun e => he (by simp only [e])]
          refine ND.yes (by omega) ?_
          refine NP.mk (by kernel_rfl) ?_
          apply NDr.pure
          · exact ⟨rfl, rfl⟩
          apply NDr.pure
          · exact ⟨rfl, rfl⟩
          apply NDr.pure
          · refine NP.mk (by omega) ?_
            refine NG.mapN (by omega) ?_
            exact ⟨rfl, rfl⟩
          apply NDr.pure
          · exact ⟨rfl, rfl⟩
          apply NDr.pure
          · exact ⟨rfl, rfl⟩
          apply NDr.pure
          · exact ⟨rfl, rfl⟩
          apply NDr.pure
          · refine NP.mk (by omega) ?_
            refine NG.mapN (by omega) ?_
            exact ⟨rfl, rfl⟩
          apply NDr.pure
          · exact ⟨rfl, rfl⟩
          apply NDr.pure
          · refine ND.no (by omega) ?_
            exact ⟨rfl, rfl⟩
          refine NP.mk (by kernel_rfl) ?_
          exact NRet.mk [] rfl ⟨.refl _, rfl⟩
      · have : i = a.length := by omega
        subst this
        rw [decide_eq_true (take_eq_end hl ht)]
        refine ND.no (by omega) ?_
        exact NRet.mk [] rfl ⟨.refl _, rfl⟩
  · rw [decide_eq_false fun e => hl (by rw [e])]
    refine ND.no (by (simp only [List.length_map, List.length_append, List.length_replicate, List.length_cons, List.length_nil, List.length_take, List.length_drop]; omega)) ?_
    exact NRet.mk [] rfl ⟨.refl _, rfl⟩
theorem formF_walk (n : Int) : ACalls Try.prog Nm.txn_Formed_1 [i64 n] [] (.bool (decide (1073741824 < n))) [] := by
  refine ACalls_of tab (dr_snd tab mixed) Nm.txn_Formed_1_h rfl (by kernel_rfl) (Nat.le_of_ble_eq_true rfl) rfl ?_
  refine NB.dec (fun hk1 => ?_) (fun hk1 => ?_)
  · refine NRet.boolE (b := true) ?_ (NRet.mk [] rfl ⟨.refl _, rfl⟩)
    (simp only [decide_eq_true_eq, decide_eq_false_iff_not, eq_comm (a := true), eq_comm (a := false)]; omega)
  refine NRet.boolE (b := false) ?_ (NRet.mk [] rfl ⟨.refl _, rfl⟩)
  (simp only [decide_eq_true_eq, decide_eq_false_iff_not, eq_comm (a := true), eq_comm (a := false)]; omega)
theorem indexV_walk (g : Nat) (l : List Int) (p : Int → Bool) (hl : l.length ≤ 2 ^ 40) (hg : ∀ d ∈ l, ACalls Try.prog g [i64 d] [] (.bool (p d)) []) :
    ACalls Try.prog Nm.slices_IndexFunc_api_Vec_int [ints l, .fn g []] [] (i64 (ixI p l)) [] := by
  refine ACalls_of tab (dr_snd tab mixed) Nm.slices_IndexFunc_api_Vec_int_h rfl (by kernel_rfl) (Nat.le_of_ble_eq_true rfl) rfl ?_
  refine NLoop.mk [] [0, 1, 6, 7, 8] (fun m vs H => ∃ i, i ≤ l.length ∧ m = l.length - i ∧ (∀ x ∈ l.take i, p x = false) ∧ H = [] ∧ vs = [ints l, .fn g [], ints l, i64 l.length, i64 i]) rfl ?_ ?_
  · exact Canon.mk [] rfl ⟨l.length, 0, Nat.zero_le _, rfl, by simp, rfl, by simp [ints, i64]⟩
  · rintro m vs H ⟨i, hi, rfl, ht, rfl, rfl⟩
    by_cases hil : i < l.length
    · have hc := hg _ (List.getElem_mem hil)
      obtain ⟨f1, f2⟩ := find_step hil ht
      cases hp : p l[i] with
      | true =>
        rw [hp] at hc
        rw [f1 hp]
        refine ND.yes (by omega) ?_
        refine NP.mk (by omega) ?_
        refine NG.mapN (by omega) ?_
        refine NCall.call (hc) rfl rfl ?_
        exact NRet.mk [] rfl ⟨.refl _, rfl⟩
      | false =>
        rw [hp] at hc
        refine ND.yes (by omega) ?_
        refine NP.mk (by omega) ?_
        refine NG.mapN (by omega) ?_
        refine NCall.call (hc) rfl rfl ?_
        refine NW.i64 (by omega) (by omega) ?_
        exact Canon.mk [] rfl ⟨l.length - (i + 1), by omega, i + 1, by omega, rfl, f2 hp, rfl, rfl⟩
    · have : i = l.length := by omega
      subst this
      rw [List.take_length] at ht
      rw [find_none ht]
      refine ND.no (by omega) ?_
      exact NRet.mk [] rfl ⟨.refl _, rfl⟩
theorem containsV_walk (g : Nat) (l : List Int) (p : Int → Bool) (hl : l.length ≤ 2 ^ 40) (hg : ∀ d ∈ l, ACalls Try.prog g [i64 d] [] (.bool (p d)) []) :
    ACalls Try.prog Nm.slices_ContainsFunc_api_Vec_int [ints l, .fn g []] [] (.bool (l.any p)) [] := by
  have hi := indexV_walk g l p hl hg
  refine ACalls_of tab (dr_snd tab mixed) Nm.slices_ContainsFunc_api_Vec_int_h rfl (by kernel_rfl) (Nat.le_of_ble_eq_true rfl) rfl ?_
  rw [ixI_any]
  by_cases h : 0 ≤ ixI p l
  · rw [decide_eq_true h]
    refine NCall.call (hi) rfl rfl ?_
    refine ND.yes (by omega) ?_
    exact NRet.mk [] rfl ⟨.refl _, rfl⟩
  · rw [decide_eq_false h]
    refine NCall.call (hi) rfl rfl ?_
    refine ND.no (by omega) ?_
    exact NRet.mk [] rfl ⟨.refl _, rfl⟩
theorem all_le (v : List Int) : (v.all fun n => decide (n ≤ 1073741824)) = !v.any fun n => decide (1073741824 < n) := by
  rw [List.not_any_eq_all_not]
  congr 1; funext n
  by_cases h : n ≤ 1073741824
  · simp [h, Int.not_lt.2 h]
  · simp [h, Int.not_le.1 h]
theorem formed_walk (t : Txn) (ht : smTxn t) : ACalls Try.prog Nm.txn_Formed [txnA t] [] (.bool (formed t)) [] := by
  refine ACalls_of tab (dr_snd tab mixed) Nm.txn_Formed_h rfl (by kernel_rfl) (Nat.le_of_ble_eq_true rfl) rfl ?_
  obtain ⟨hs, h1, h2, h3⟩ := ht
  have k1 := vecTrim_walk t.deps (by omega)
  have k2 := equalV_walk (trim t.deps) t.deps (Nat.le_trans (trim_len _) (by omega))
  have k3 := vecAt_walk t.deps t.node (by omega)
  have k4 := containsV_walk Nm.txn_Formed_1 t.deps (fun n => decide (1073741824 < n)) (by omega) (fun n _ => formF_walk n)
  have k5 := right_walk t.node t.seq t.effs (by omega) h3
  have k6 := effHeard_walk t.effs t.node t.seq t.deps (by omega) h3 (by omega)
  obtain ⟨hs1, hs2⟩ := hs
  refine NB.dec (fun hk1 => ?_) (fun hk1 => ?_)
  · refine NRet.boolE (b := false) ?_ (NRet.mk [] rfl ⟨.refl _, rfl⟩)
    grind [formed, vecOk, all_le]
  refine NB.dec (fun hk2 => ?_) (fun hk2 => ?_)
  · refine NRet.boolE (b := false) ?_ (NRet.mk [] rfl ⟨.refl _, rfl⟩)
    grind [formed, vecOk, all_le]
  refine NB.dec (fun hk3 => ?_) (fun hk3 => ?_)
  · refine NRet.boolE (b := false) ?_ (NRet.mk [] rfl ⟨.refl _, rfl⟩)
    grind [formed, vecOk, all_le]
  refine NB.dec (fun hk4 => ?_) (fun hk4 => ?_)
  · refine NRet.boolE (b := false) ?_ (NRet.mk [] rfl ⟨.refl _, rfl⟩)
    grind [formed, vecOk, all_le]
  refine NB.dec (fun hk5 => ?_) (fun hk5 => ?_)
  · refine NRet.boolE (b := false) ?_ (NRet.mk [] rfl ⟨.refl _, rfl⟩)
    grind [formed, vecOk, all_le]
  refine NB.dec (fun hk6 => ?_) (fun hk6 => ?_)
  · refine NRet.boolE (b := false) ?_ (NRet.mk [] rfl ⟨.refl _, rfl⟩)
    grind [formed, vecOk, all_le]
  refine NP.mk (by kernel_rfl) ?_
  apply NDr.rd [0]
  · intro fH TH
    exact ⟨rfl, rfl⟩
  apply NDr.rd [0]
  · intro fH TH
    exact ⟨rfl, rfl⟩
  apply NDr.pure
  · refine NCall.call (k1) rfl rfl ?_
    exact ⟨rfl, rfl⟩
  apply NDr.rd [0]
  · intro fH TH
    exact ⟨rfl, rfl⟩
  apply NDr.rd [0]
  · intro fH TH
    exact ⟨rfl, rfl⟩
  apply NDr.pure
  · refine NCall.call (k2) rfl rfl ?_
    exact ⟨rfl, rfl⟩
  apply NDr.pure
  · exact NB.det0'
  apply NDr.pure
  · exact ⟨rfl, rfl⟩
  refine NB.mk (fun hk7 => ?_) (fun hk7 => ?_)
  · refine NB.yes (by assumption) ?_
    refine NB.yes (by assumption) ?_
    refine NB.yes (by assumption) ?_
    refine NB.yes (by assumption) ?_
    refine NB.yes (by assumption) ?_
    refine NB.yes (by assumption) ?_
    refine NB.yes (by assumption) ?_
    refine NB.yes (by assumption) ?_
    apply NDr.pure
    · refine NB.yes (by assumption) ?_
      exact ⟨rfl, rfl⟩
    apply NDr.pure
    · exact ⟨rfl, rfl⟩
    apply NDr.pure
    · exact ⟨rfl, rfl⟩
    refine NP.mk (by kernel_rfl) ?_
    refine NRet.boolE (b := false) ?_ (NRet.mk [] rfl ⟨.refl _, rfl⟩)
    grind [formed, vecOk, all_le]
  apply NDr.rd [0]
  · intro fH TH
    exact ⟨rfl, rfl⟩
  refine NB.no (by assumption) ?_
  apply NDr.rd [0]
  · intro fH TH
    exact ⟨rfl, rfl⟩
  refine NB.no (by assumption) ?_
  apply NDr.rd [0]
  · intro fH TH
    exact ⟨rfl, rfl⟩
  refine NB.no (by assumption) ?_
  apply NDr.rd [0]
  · intro fH TH
    exact ⟨rfl, rfl⟩
  refine NB.no (by assumption) ?_
  apply NDr.pure
  · refine NCall.call (k3) rfl rfl ?_
    exact ⟨rfl, rfl⟩
  refine NB.no (by assumption) ?_
  apply NDr.rd [0]
  · intro fH TH
    exact ⟨rfl, rfl⟩
  refine NB.no (by assumption) ?_
  apply NDr.rd [0]
  · intro fH TH
    exact ⟨rfl, rfl⟩
  refine NB.no (by assumption) ?_
  apply NDr.pure
  · refine NW.i64 (by omega) (by omega) ?_
    exact ⟨rfl, rfl⟩
  refine NB.no (by assumption) ?_
  apply NDr.pure
  · exact NB.det'
  apply NDr.pure
  · refine NB.no (by assumption) ?_
    exact ⟨rfl, rfl⟩
  apply NDr.pure
  · exact ⟨rfl, rfl⟩
  refine NB.mk (fun hk27 => ?_) (fun hk27 => ?_)
  · refine NB.yes (by assumption) ?_
    refine NB.yes (by assumption) ?_
    apply NDr.pure
    · refine NB.yes (by assumption) ?_
      exact ⟨rfl, rfl⟩
    refine NP.mk (by kernel_rfl) ?_
    refine NRet.boolE (b := false) ?_ (NRet.mk [] rfl ⟨.refl _, rfl⟩)
    grind [formed, vecOk, all_le]
  apply NDr.rd [0]
  · intro fH TH
    exact ⟨rfl, rfl⟩
  refine NB.no (by assumption) ?_
  apply NDr.rd [0]
  · intro fH TH
    exact ⟨rfl, rfl⟩
  refine NB.no (by assumption) ?_
  apply NDr.pure
  · refine NCall.call (k4) rfl rfl ?_
    exact ⟨rfl, rfl⟩
  apply NDr.pure
  · refine NB.no (by assumption) ?_
    exact ⟨rfl, rfl⟩
  refine NP.mk (by kernel_rfl) ?_
  refine NB.mk (fun hk34 => ?_) (fun hk34 => ?_)
  · refine NRet.boolE (b := false) ?_ (NRet.mk [] rfl ⟨.refl _, rfl⟩)
    grind [formed, vecOk, all_le]
  refine NCall.call (k5) rfl rfl ?_
  refine NB.mk (fun hk35 => ?_) (fun hk35 => ?_)
  · refine NB.yes (by assumption) ?_
    refine NB.yes (by assumption) ?_
    refine NB.yes (by assumption) ?_
    refine NB.yes (by assumption) ?_
    refine NB.yes (by assumption) ?_
    refine NB.yes (by assumption) ?_
    refine NB.yes (by assumption) ?_
    refine NB.yes (by assumption) ?_
    refine NCall.call (k6) rfl rfl ?_
    refine NB.yes (by assumption) ?_
    refine NRet.boolE ?_ (NRet.mk [] rfl ⟨.refl _, rfl⟩)
    grind [formed, vecOk, all_le]
  refine NB.no (by assumption) ?_
  refine NB.no (by assumption) ?_
  refine NB.no (by assumption) ?_
  refine NB.no (by assumption) ?_
  refine NB.no (by assumption) ?_
  refine NB.no (by assumption) ?_
  refine NB.no (by assumption) ?_
  refine NB.no (by assumption) ?_
  refine NB.no (by assumption) ?_
  refine NRet.boolE (b := false) ?_ (NRet.mk [] rfl ⟨.refl _, rfl⟩)
  grind [formed, vecOk, all_le]
end Go.Bv
namespace Go.Bv
set_option linter.unusedSimpArgs false
set_option linter.unusedVariables false
set_option maxHeartbeats 4000000
set_option maxRecDepth 20000
open Go Go.Proofs
def dotE (g : List Dot) : List (AV × AV) := g.map fun d => (dotA d, AV.bool true)
theorem dotE_get (k : List Dot) (i : Nat) : (dotE k)[i]? = (k[i]?).map fun d => (dotA d, AV.bool true) := by unfold dotE; rw [List.getElem?_map]
theorem NFind.dots {k : List Dot} {d : Dot} {T : Nat → AV → Prop} {E : Prop} (h1 : d ∈ k → ∀ i, (dotE k)[i]? = some (dotA d, .bool true) → T i (.bool true)) (h2 : d ∉ k → E) : NFind [0, 0, 0] (dotE k) (dotA d) T E := by
  by_cases h : d ∈ k
  · have hex : ∃ i : Nat, k[i]? = some d := List.getElem?_of_mem h
    obtain ⟨i, hx, hmin⟩ := least_ex hex
    have hi : (dotE k)[i]? = some (dotA d, .bool true) := by rw [dotE_get, hx]; rfl
    refine .hit i (dotA d) (.bool true) hi (by rw [keyEq_dot]; simp) (fun j hj k' v' hjj => ?_) (h1 h i hi)
    rw [dotE_get] at hjj
    cases hkj : k[j]? with
    | none => rw [hkj] at hjj; simp at hjj
    | some y =>
      rw [hkj] at hjj
      simp only [Option.map_some, Option.some.injEq, Prod.mk.injEq] at hjj
      rw [← hjj.1, keyEq_dot, decide_eq_false]
      exact fun e => hmin j hj (by rw [hkj, e])
  · refine .miss (fun j k' v' hjj => ?_) (h2 h)
    rw [dotE_get] at hjj
    cases hkj : k[j]? with
    | none => rw [hkj] at hjj; simp at hjj
    | some y =>
      rw [hkj] at hjj
      simp only [Option.map_some, Option.some.injEq, Prod.mk.injEq] at hjj
      rw [← hjj.1, keyEq_dot, decide_eq_false]
      exact fun e => h (e ▸ List.mem_of_getElem? hkj)
end Go.Bv
namespace Go.Bv
open Go Go.Proofs
def heldB (v : List Int) (x : Item) : Bool := itemOk x && hasB v x.dot.node x.dot.seq
def soundS (s : Store) : Bool := decide (s.heard.length ≤ 8) && (vecOk s.heard && (decide (norm s.items = s.items) && s.items.all (heldB s.heard)))
theorem soundS_iff {s : Store} : soundS s = true ↔ s.heard.length ≤ 8 ∧ (trim s.heard = s.heard ∧ ∀ n ∈ s.heard, n ≤ 1073741824) ∧ norm s.items = s.items ∧ ∀ x ∈ s.items, itemOk x = true ∧ hasB s.heard x.dot.node x.dot.seq = true := by
  unfold soundS vecOk heldB
  simp only [Bool.and_eq_true, decide_eq_true_eq, List.all_eq_true]
theorem trim_le {w : List Int} {m : Int} (h : ∀ i, vat w i ≤ m) : ∀ n ∈ trim w, n ≤ m := fun n hn => by
  obtain ⟨i, hi, rfl⟩ := List.getElem_of_mem hn
  have := h i
  rw [← vat_trim, vat_in hi] at this
  omega
theorem vat_le' {v : List Int} {m : Int} (h : ∀ x ∈ v, x ≤ m) (hm : 0 ≤ m) (i : Nat) : vat v i ≤ m := by
  rcases Nat.lt_or_ge i v.length with hi | hi
  · rw [vat_in hi]
    have := h _ (List.getElem_mem hi); omega
  · rw [vat_out hi]; exact hm
theorem next_len8 {v : List Int} {t : Txn} (hv : v.length ≤ 8) : (next v t).length ≤ 8 := by
  by_cases ho : okN t
  · rw [next_ok ho]
    have h1 := trim_len (vset v t.node.toNat t.seq)
    have h2 : (vset v t.node.toNat t.seq).length ≤ 8 := by
      unfold vset
      rw [List.length_set, List.length_append, List.length_replicate]
      unfold okN at ho
      omega
    omega
  · rw [next_bad ho]
    have := trim_len v
    omega
theorem next_le {v : List Int} {t : Txn} (hv : ∀ x ∈ v, x ≤ 1073741824) : ∀ x ∈ next v t, x ≤ 1073741824 := by
  have h := vat_le' hv (by decide)
  by_cases ho : okN t
  · rw [next_ok ho]
    refine trim_le fun i => ?_
    rw [vat_vset _ _ _ ho.2.2.1]
    split
    · exact ho.2.2.2
    · exact h i
  · rw [next_bad ho]
    exact trim_le h
theorem hasB_mono {v w : List Int} (h : ∀ i, vat v i ≤ vat w i) {a b : Int} (ha : hasB v a b = true) : hasB w a b = true := by
  unfold hasB at *
  have := vatI_mono h a
  have := of_decide_eq_true ha
  exact decide_eq_true (by omega)
theorem made_ok {n s : Int} {e : Eff} {l : List Eff} (h : effsOk n s l = true) (he : e ∈ l) (hk : e.kind ≠ 0) : itemOk (made n s e) = true := by
  unfold effsOk at h
  rw [Bool.and_eq_true, List.all_eq_true] at h
  have := h.1 e he
  rw [Bool.and_eq_true] at this
  have h2 := this.1
  unfold effOk at h2
  rw [Bool.and_eq_true, if_neg hk] at h2
  exact h2.2
theorem formed_len {t : Txn} (h : formed t = true) : t.effs.length ≤ 8 := by
  unfold formed at h
  simp only [Bool.and_eq_true, decide_eq_true_eq] at h
  omega
theorem formed_seq {t : Txn} (h : formed t = true) : 1 ≤ t.seq ∧ 0 ≤ t.node ∧ t.node < 8 := by
  unfold formed at h
  simp only [Bool.and_eq_true, decide_eq_true_eq] at h
  omega
theorem do_sound {s : Store} {t : Txn} (hs : soundS s = true) (hf : formed t = true) (hr : ready s.heard t = true) : soundS (doT s t) = true := by
  obtain ⟨h1, ⟨h2, h3⟩, h4, h5⟩ := soundS_iff.1 hs
  refine soundS_iff.2 ⟨next_len8 h1, ⟨trim_next _ _, next_le h3⟩, doL_keeps t.effs h4, fun x hx => ?_⟩
  have hold : ∀ x ∈ s.items, itemOk x = true ∧ hasB (next s.heard t) x.dot.node x.dot.seq = true := fun x hx => ⟨(h5 x hx).1, hasB_mono (next_mono hr) (h5 x hx).2⟩
  by_cases he : t.effs = []
  · refine hold x ?_
    have : (doT s t).items = s.items := by show doL _ _ _ t.effs = _; rw [he]; rfl
    rwa [this] at hx
  · have hx : x ∈ doL t.node t.seq s.items t.effs := hx
    rw [doL_raw he] at hx
    rcases (mem_rawT hf x).1 (norm_mem hx) with ⟨h, _⟩ | ⟨e, h6, h7, rfl, _⟩
    · exact hold x h
    · refine ⟨made_ok (formed_right hf) h6 h7, ?_⟩
      have hn := formed_n hf
      have hq := formed_seq hf
      show hasB (next s.heard t) t.node t.seq = true
      unfold hasB
      refine decide_eq_true ⟨hq.1, ?_⟩
      unfold vatI
      rw [if_neg (by omega), vat_next, if_pos ⟨hn, rfl⟩]
      exact Int.le_refl _
theorem done_sound : ∀ (l : List Txn) {s : Store}, soundS s = true → chain s.heard l = true → (∀ t ∈ l, formed t = true) → soundS (l.foldl doT s) = true ∧ (l.foldl doT s).items.length ≤ s.items.length + 8 * l.length
  | [], _, h, _, _ => ⟨h, by simp⟩
  | t :: l, s, h, hc, hf => by
    obtain ⟨hr, hc'⟩ := (chain_cons _ t l).1 hc
    have ht := hf t (List.mem_cons_self ..)
    obtain ⟨h1, h2⟩ := done_sound l (s := doT s t) (do_sound h ht hr) hc' fun t' h' => hf t' (List.mem_cons_of_mem _ h')
    refine ⟨h1, ?_⟩
    have h3 := doL_len (n := t.node) (s := t.seq) t.effs s.items
    have h4 := formed_len ht
    have h5 : (doT s t).items = doL t.node t.seq s.items t.effs := rfl
    rw [h5] at h2
    rw [List.foldl_cons, List.length_cons]
    omega
theorem okT_mem {l : List Txn} : ∀ t ∈ l.filter okT, formed t = true := fun _ ht => (List.mem_filter.1 ht).2
theorem done_formed {v : List Int} {l : List Txn} : ∀ t ∈ (takeT v (l.filter okT)).1, formed t = true := fun t ht => okT_mem t (takeT_mem ht)
theorem all_sound {s : Store} (h : soundS s = true) (l : List Txn) : soundS (allS s l).1 = true ∧ (allS s l).2.length ≤ l.length ∧ (allS s l).1.items.length ≤ s.items.length + 8 * (allS s l).2.length := by
  obtain ⟨h1, h2⟩ := done_sound _ h (takeT_chain s.heard (l.filter okT)) done_formed
  have h3 := takeT_len s.heard (l.filter okT)
  have h4 := List.length_filter_le okT l
  exact ⟨h1, by unfold allS; simp only; omega, h2⟩
/-- The same transactions, each in an order of causes, leave the same items. -/
theorem same_items {v : List Int} {a b : List Txn} {X : List Item} (hX : norm X = X) (ha : chain v a = true) (hb : chain v b = true) (hf : ∀ t ∈ a, formed t = true) (hm : ∀ t, t ∈ a ↔ t ∈ b) : a.foldl doI X = b.foldl doI X := by
  have hx : ∀ x, x ∈ (X.filter fun x => decide (x.dot ∉ dropsT a)) ++ madeL' a ↔ (x ∈ X ∧ x.dot ∉ dropsT a) ∨ MadeAll a x := fun x => by
    rw [List.mem_append, List.mem_filter, mem_madeL', decide_eq_true_eq]
  rw [doAll_is hX ha hf (fun t => Iff.rfl) hx, doAll_is hX hb (fun t ht => hf t ((hm t).2 ht)) (fun t => (hm t).symm) hx]
theorem heard_eq {v : List Int} {a b : List Txn} (hv : trim v = v) (h : ∀ i, vat (nexts v a) i = vat (nexts v b) i) : nexts v a = nexts v b := by
  rw [← nexts_trim (l := a) hv, ← nexts_trim (l := b) hv]
  exact trim_ext _ _ h
theorem twice_filter {l : List Txn} (h : twice l = false) : ((l.filter okT).map dotOf).Nodup := by
  unfold twice at h
  have h : (l.map dotOf).Nodup := by simpa using h
  exact h.sublist (List.filter_sublist.map dotOf)
/-- In whatever order transactions come. -/
theorem store_any {s : Store} {l l' : List Txn} (hs : soundS s = true) (ht : twice l = false) (hp : l.Perm l') : (allS s l).2.length = (allS s l').2.length ∧ (allS s l).1 = (allS s l').1 := by
  obtain ⟨_, ⟨h2, _⟩, h4, _⟩ := soundS_iff.1 hs
  have hpf := hp.filter okT
  have hd := twice_filter ht
  have hd' : ((l'.filter okT).map dotOf).Nodup := (hpf.map dotOf).nodup_iff.1 hd
  obtain ⟨h5, h6⟩ := take_any (v := s.heard) (dots_inj hd) (perm_mem hpf) (take_nodup (nodup_of_dots hd)) (take_nodup (nodup_of_dots hd'))
  rw [allS_eq, allS_eq]
  refine ⟨h5.length_eq, ?_⟩
  rw [takeT_nexts, takeT_nexts] at h6
  show Store.mk _ _ = Store.mk _ _
  rw [takeT_nexts, takeT_nexts, heard_eq h2 h6, same_items h4 (takeT_chain _ _) (takeT_chain _ _) done_formed (perm_mem h5)]
theorem chain_app : ∀ {a b : List Txn} {v : List Int}, chain v a = true → chain (nexts v a) b = true → chain v (a ++ b) = true
  | [], _, _, _, h => h
  | t :: a, b, v, h, h' => by
    obtain ⟨h1, h2⟩ := (chain_cons v t a).1 h
    exact (chain_cons v t (a ++ b)).2 ⟨h1, chain_app h2 h'⟩
theorem nexts_app (v : List Int) (a b : List Txn) : nexts v (a ++ b) = nexts (nexts v a) b := by unfold nexts; rw [List.foldl_append]
/-- What comes in two parts, of which the second one is all, is taken as at once. -/
theorem take_parts {v : List Int} {l1 l : List Txn} (hd : ∀ t ∈ l, ∀ t' ∈ l, dotOf t = dotOf t' → t = t') (hl : ∀ t ∈ l1, t ∈ l) :
    (∀ t, t ∈ (takeT v l1).1 ++ (takeT (takeT v l1).2 l).1 ↔ t ∈ (takeT v l).1) ∧ chain v ((takeT v l1).1 ++ (takeT (takeT v l1).2 l).1) = true ∧
    (∀ i, vat (nexts v ((takeT v l1).1 ++ (takeT (takeT v l1).2 l).1)) i = vat (nexts v (takeT v l).1) i) := by
  have hc2 := takeT_chain (takeT v l1).2 l
  have hn := takeT_nexts v l1
  have hn2 := takeT_nexts (takeT v l1).2 l
  rw [hn] at hc2
  have hc := chain_app (takeT_chain v l1) hc2
  rw [← hn] at hc
  have hsub : ∀ t ∈ (takeT v l1).1 ++ (takeT (takeT v l1).2 l).1, t ∈ l := fun t ht => by
    rcases List.mem_append.1 ht with h | h
    · exact hl t (takeT_mem h)
    · exact takeT_mem h
  obtain ⟨r, hp, hr⟩ := takeT_rest v l
  obtain ⟨r2, hp2, hr2⟩ := takeT_rest (takeT v l1).2 l
  have hw : (takeT (takeT v l1).2 l).2 = nexts v ((takeT v l1).1 ++ (takeT (takeT v l1).2 l).1) := by rw [nexts_app, hn2, hn]
  obtain ⟨a1, a2⟩ := chain_sub (u := v) (b := (takeT v l).1) hd (takeT_chain v l) (takeT_nexts v l) (fun t ht => takeT_mem ht) (fun t ht => by
    rcases List.mem_append.1 (hp.mem_iff.1 ht) with h | h
    · exact .inl h
    · exact .inr (hr t h)) (fun i => Int.le_refl _) (fun i => by rw [takeT_nexts]; exact nexts_mono (takeT_chain v l) i) hc hsub
  obtain ⟨b1, b2⟩ := chain_sub (u := v) (b := (takeT v l1).1 ++ (takeT (takeT v l1).2 l).1) hd hc hw hsub (fun t ht => by
    rcases List.mem_append.1 (hp2.mem_iff.1 ht) with h | h
    · exact .inl (List.mem_append_right _ h)
    · exact .inr (hr2 t h)) (fun i => Int.le_refl _) (fun i => by rw [hw]; exact nexts_mono hc i) (takeT_chain v l) (fun t ht => takeT_mem ht)
  refine ⟨fun t => ⟨a1 t, b1 t⟩, hc, fun i => ?_⟩
  have h1 := a2 i
  have h2 := b2 i
  rw [takeT_nexts v l] at h1
  rw [hw] at h2
  exact Int.le_antisymm h1 h2
/-- What comes once more changes nothing; in two parts. -/
theorem store_again {s : Store} {l : List Txn} (hs : soundS s = true) (ht : twice l = false) (n : Nat) :
    (allS (allS s l).1 l).2 = [] ∧ (allS (allS s l).1 l).1 = (allS s l).1 ∧ (allS (allS s (l.take n)).1 l).1 = (allS s l).1 := by
  obtain ⟨_, ⟨h2, _⟩, h4, _⟩ := soundS_iff.1 hs
  have hd := twice_filter ht
  have htw := take_twice (v := s.heard) (l := l.filter okT) fun t ht => formed_n (okT_mem t ht)
  have e1 : allS (allS s l).1 l = ((allS s l).1, []) := by
    rw [allS_eq s l, allS_eq]
    simp only [htw, List.foldl_nil]
  refine ⟨by rw [e1], by rw [e1], ?_⟩
  have hsub : ∀ t ∈ (l.take n).filter okT, t ∈ l.filter okT := fun t ht => by
    obtain ⟨h1, h2⟩ := List.mem_filter.1 ht
    exact List.mem_filter.2 ⟨List.mem_of_mem_take h1, h2⟩
  obtain ⟨k1, k2, k3⟩ := take_parts (v := s.heard) (dots_inj hd) hsub
  rw [allS_eq s (l.take n), allS_eq, allS_eq s l]
  show Store.mk _ _ = Store.mk _ _
  have hh := heard_eq h2 k3
  rw [nexts_app] at hh
  rw [← List.foldl_append, same_items h4 k2 (takeT_chain s.heard (l.filter okT)) (fun t ht => done_formed t ((k1 t).1 ht)) k1]
  rw [takeT_nexts (takeT s.heard ((l.take n).filter okT)).2, takeT_nexts s.heard ((l.take n).filter okT), takeT_nexts s.heard (l.filter okT), ← hh, takeT_nexts s.heard ((l.take n).filter okT)]
end Go.Bv
namespace Go.Bv
open Go Go.Proofs
end Go.Bv
namespace Go.Bv
set_option linter.unusedSimpArgs false
set_option linter.unusedVariables false
set_option maxHeartbeats 4000000
set_option maxRecDepth 20000
open Go Go.Proofs
end Go.Bv
namespace Go.Bv
set_option linter.unusedSimpArgs false
set_option linter.unusedVariables false
set_option maxHeartbeats 4000000
set_option maxRecDepth 20000
open Go Go.Proofs
end Go.Bv
namespace Go.Bv
set_option linter.unusedSimpArgs false
set_option linter.unusedVariables false
set_option maxHeartbeats 4000000
set_option maxRecDepth 20000
open Go Go.Proofs
end Go.Bv
namespace Go.Bv
set_option linter.unusedSimpArgs false
set_option linter.unusedVariables false
set_option maxHeartbeats 4000000
set_option maxRecDepth 20000
open Go Go.Proofs
theorem same9_walk (a b : List Item) (ha : a.length ≤ 2 ^ 38) : ACalls Try.prog Nm.ref09_Same [itemsA a, itemsA b] [] (.bool (decide (a = b))) [] := by
  refine ACalls_of tab (dr_snd tab mixed) Nm.ref09_Same_h rfl (by kernel_rfl) (Nat.le_of_ble_eq_true rfl) rfl ?_
  by_cases hl : a.length = b.length
  · refine ND.yes (by (simp only [List.length_map, List.length_append, List.length_replicate, List.length_cons, List.length_nil, List.length_take, List.length_drop]; omega)) ?_
    refine NLoop.mk [] [0, 1, 5] (fun m vs H => ∃ i, i ≤ a.length ∧ m = a.length - i ∧ a.take i = b.take i ∧ H = [] ∧ vs = [itemsA a, itemsA b, i64 i]) rfl ?_ ?_
    · exact Canon.mk [] rfl ⟨a.length, 0, Nat.zero_le _, rfl, rfl, rfl, rfl⟩
    · rintro m vs H ⟨i, hi, rfl, ht, rfl, rfl⟩
      by_cases hil : i < a.length
      · have hib : i < b.length := by omega
        refine ND.yes (by (simp only [List.length_map, List.length_append, List.length_replicate, List.length_cons, List.length_nil, List.length_take, List.length_drop]; omega)) ?_
        refine NP.mk (by kernel_rfl) ?_
        apply NDr.pure
        · exact ⟨rfl, rfl⟩
        apply NDr.pure
        · exact ⟨rfl, rfl⟩
        apply NDr.pure
        · refine NP.mk (by omega) ?_
          refine NG.mapN (by omega) ?_
          exact ⟨rfl, rfl⟩
        apply NDr.pure
        · exact ⟨rfl, rfl⟩
        apply NDr.pure
        · exact ⟨rfl, rfl⟩
        apply NDr.pure
        · exact ⟨rfl, rfl⟩
        apply NDr.pure
        · refine NP.mk (by omega) ?_
          refine NG.mapN (by omega) ?_
          exact ⟨rfl, rfl⟩
        apply NDr.pure
        · exact ⟨rfl, rfl⟩
        apply NDr.pure
        · exact NB.det'
        refine NP.mk (by kernel_rfl) ?_
        refine NB.mk (fun hk3 => ?_) (fun hk3 => ?_)
        · refine NRet.boolE (b := false) ?_ (NRet.mk [] rfl ⟨.refl _, rfl⟩)
          grind
        refine NW.i64 (by omega) (by omega) ?_
        exact Canon.mk [] rfl ⟨a.length - (i + 1), by omega, i + 1, by omega, rfl, take_eq_next ht hil hib (by grind [Item.ext_iff, Dot.ext_iff]), rfl, rfl⟩
      · have : i = a.length := by omega
        subst this
        rw [decide_eq_true (take_eq_end hl ht)]
        refine ND.no (by (simp only [List.length_map, List.length_append, List.length_replicate, List.length_cons, List.length_nil, List.length_take, List.length_drop]; omega)) ?_
        exact NRet.mk [] rfl ⟨.refl _, rfl⟩
  · rw [decide_eq_false fun e => hl (by rw [e])]
    refine ND.no (by (simp only [List.length_map, List.length_append, List.length_replicate, List.length_cons, List.length_nil, List.length_take, List.length_drop]; omega)) ?_
    exact NRet.mk [] rfl ⟨.refl _, rfl⟩
def shortI (x : Item) : Bool := decide (x.key.length ≤ 300 ∧ x.field.length ≤ 300 ∧ x.elem.length ≤ 300)
def shortIs (l : List Item) : Bool := decide (l.length ≤ 60) && l.all shortI
theorem short9_walk (l : List Item) (hl : l.length ≤ 2 ^ 47) (hx : ∀ e ∈ l, okItem e) : ACalls Try.prog Nm.ref09_Short [itemsA l] [] (.bool (shortIs l)) [] := by
  refine ACalls_of tab (dr_snd tab mixed) Nm.ref09_Short_h rfl (by kernel_rfl) (Nat.le_of_ble_eq_true rfl) rfl ?_
  unfold shortIs
  by_cases h : l.length ≤ 60
  · rw [decide_eq_true h, Bool.true_and]
    refine ND.no (by (simp only [List.length_map, List.length_append, List.length_replicate, List.length_cons, List.length_nil, List.length_take, List.length_drop]; omega)) ?_
    refine NLoop.mk [] [0, 3] (fun m vs H => ∃ i, i ≤ l.length ∧ m = l.length - i ∧ (∀ x ∈ l.take i, shortI x = true) ∧ H = [] ∧ vs = [itemsA l, i64 i]) rfl ?_ ?_
    · exact Canon.mk [] rfl ⟨l.length, 0, Nat.zero_le _, rfl, by simp, rfl, rfl⟩
    · rintro m vs H ⟨i, hi, rfl, ht, rfl, rfl⟩
      by_cases hil : i < l.length
      · obtain ⟨f1, f2⟩ := all_step hil ht
        obtain ⟨x1, x2, _, x3, _⟩ := hx _ (List.getElem_mem hil)
        have x1 := reach_lt x1
        have x2 := reach_lt x2
        have x3 := reach_lt x3
        cases hp : shortI l[i] with
        | true =>
          have hp' := hp
          unfold shortI at hp'
          simp only [decide_eq_true_eq] at hp'
          refine ND.yes (by (simp only [List.length_map, List.length_append, List.length_replicate, List.length_cons, List.length_nil, List.length_take, List.length_drop]; omega)) ?_
          refine NP.mk (by omega) ?_
          refine NG.mapN (by omega) ?_
          refine ND.no (by omega) ?_
          refine NP.mk (by omega) ?_
          refine NG.mapN (by omega) ?_
          refine ND.no (by omega) ?_
          refine NP.mk (by omega) ?_
          refine NG.mapN (by omega) ?_
          refine ND.no (by omega) ?_
          refine NW.i64 (by omega) (by omega) ?_
          exact Canon.mk [] rfl ⟨l.length - (i + 1), by omega, i + 1, by omega, rfl, f2 hp, rfl, rfl⟩
        | false =>
          rw [f1 hp]
          have hp' := hp
          unfold shortI at hp'
          simp only [decide_eq_false_iff_not] at hp'
          refine ND.yes (by (simp only [List.length_map, List.length_append, List.length_replicate, List.length_cons, List.length_nil, List.length_take, List.length_drop]; omega)) ?_
          refine NP.mk (by omega) ?_
          refine NG.mapN (by omega) ?_
          refine NB.dec (fun hk2 => ?_) (fun hk2 => ?_)
          · exact NRet.mk [] rfl ⟨.refl _, rfl⟩
          refine NP.mk (by omega) ?_
          refine NG.mapN (by omega) ?_
          refine NB.dec (fun hk3 => ?_) (fun hk3 => ?_)
          · exact NRet.mk [] rfl ⟨.refl _, rfl⟩
          refine NP.mk (by omega) ?_
          refine NG.mapN (by omega) ?_
          refine ND.yes (by omega) ?_
          exact NRet.mk [] rfl ⟨.refl _, rfl⟩
      · have : i = l.length := by omega
        subst this
        rw [all_end ht]
        refine ND.no (by (simp only [List.length_map, List.length_append, List.length_replicate, List.length_cons, List.length_nil, List.length_take, List.length_drop]; omega)) ?_
        exact NRet.mk [] rfl ⟨.refl _, rfl⟩
  · rw [decide_eq_false h, Bool.false_and]
    refine ND.yes (by (simp only [List.length_map, List.length_append, List.length_replicate, List.length_cons, List.length_nil, List.length_take, List.length_drop]; omega)) ?_
    exact NRet.mk [] rfl ⟨.refl _, rfl⟩
end Go.Bv
namespace Go.Bv
set_option linter.unusedSimpArgs false
set_option linter.unusedVariables false
set_option maxHeartbeats 4000000
set_option maxRecDepth 20000
open Go Go.Proofs
def storeB (s : Store) : Blk := .row .box (.agg 2) [.agg [ints s.heard, itemsA s.items]]
theorem equalI_walk (a b : List Item) (ha : a.length ≤ 2 ^ 38) : ACalls Try.prog Nm.slices_Equal_api_Item_api_Item [itemsA a, itemsA b] [] (.bool (decide (a = b))) [] := by
  refine ACalls_of tab (dr_snd tab mixed) Nm.slices_Equal_api_Item_api_Item_h rfl (by kernel_rfl) (Nat.le_of_ble_eq_true rfl) rfl ?_
  by_cases hl : a.length = b.length
  · refine ND.yes (by (simp only [List.length_map, List.length_append, List.length_replicate, List.length_cons, List.length_nil, List.length_take, List.length_drop]; omega)) ?_
    refine NLoop.mk [] [0, 1, 11, 12, 13] (fun m vs H => ∃ i, i ≤ a.length ∧ m = a.length - i ∧ a.take i = b.take i ∧ H = [] ∧ vs = [itemsA a, itemsA b, itemsA a, i64 a.length, i64 i]) rfl ?_ ?_
    · exact Canon.mk [] rfl ⟨a.length, 0, Nat.zero_le _, rfl, rfl, rfl, by simp [itemsA, i64]⟩
    · rintro m vs H ⟨i, hi, rfl, ht, rfl, rfl⟩
      by_cases hil : i < a.length
      · have hib : i < b.length := by omega
        refine ND.yes (by omega) ?_
        refine NP.mk (by kernel_rfl) ?_
        apply NDr.pure
        · exact ⟨rfl, rfl⟩
        apply NDr.pure
        · exact ⟨rfl, rfl⟩
        apply NDr.pure
        · refine NP.mk (by omega) ?_
          refine NG.mapN (by omega) ?_
          exact ⟨rfl, rfl⟩
        apply NDr.pure
        · exact ⟨rfl, rfl⟩
        apply NDr.pure
        · exact ⟨rfl, rfl⟩
        apply NDr.pure
        · exact ⟨rfl, rfl⟩
        apply NDr.pure
        · refine NP.mk (by omega) ?_
          refine NG.mapN (by omega) ?_
          exact ⟨rfl, rfl⟩
        apply NDr.pure
        · exact ⟨rfl, rfl⟩
        apply NDr.pure
        · exact NB.det'
        refine NP.mk (by kernel_rfl) ?_
        refine NB.mk (fun hk3 => ?_) (fun hk3 => ?_)
        · refine NRet.boolE (b := false) ?_ (NRet.mk [] rfl ⟨.refl _, rfl⟩)
          grind
        refine NW.i64 (by omega) (by omega) ?_
        exact Canon.mk [] rfl ⟨a.length - (i + 1), by omega, i + 1, by omega, rfl, take_eq_next ht hil hib (by grind [Item.ext_iff, Dot.ext_iff]), rfl, rfl⟩
      · have : i = a.length := by omega
        subst this
        rw [decide_eq_true (take_eq_end hl ht)]
        refine ND.no (by omega) ?_
        exact NRet.mk [] rfl ⟨.refl _, rfl⟩
  · rw [decide_eq_false fun e => hl (by rw [e])]
    refine ND.no (by (simp only [List.length_map, List.length_append, List.length_replicate, List.length_cons, List.length_nil, List.length_take, List.length_drop]; omega)) ?_
    exact NRet.mk [] rfl ⟨.refl _, rfl⟩
theorem soundF1_walk (n : Int) : ACalls Try.prog Nm.store_Sound_1 [i64 n] [] (.bool (decide (1073741824 < n))) [] := by
  refine ACalls_of tab (dr_snd tab mixed) Nm.store_Sound_1_h rfl (by kernel_rfl) (Nat.le_of_ble_eq_true rfl) rfl ?_
  refine NB.dec (fun hk1 => ?_) (fun hk1 => ?_)
  · refine NRet.boolE (b := true) ?_ (NRet.mk [] rfl ⟨.refl _, rfl⟩)
    (simp only [decide_eq_true_eq, decide_eq_false_iff_not, eq_comm (a := true), eq_comm (a := false)]; omega)
  refine NRet.boolE (b := false) ?_ (NRet.mk [] rfl ⟨.refl _, rfl⟩)
  (simp only [decide_eq_true_eq, decide_eq_false_iff_not, eq_comm (a := true), eq_comm (a := false)]; omega)
theorem soundF2_walk (s : Store) (x : Item) (hv : s.heard.length ≤ 2 ^ 38) (hx : smItem x) : ACalls Try.prog Nm.store_Sound_2 [itemA x, .ptr 0 0 0] [storeB s] (.bool (!heldB s.heard x)) [storeB s] := by
  refine ACalls_of tab (dr_snd tab mixed) Nm.store_Sound_2_h rfl (by kernel_rfl) (Nat.le_of_ble_eq_true rfl) rfl ?_
  have h1 := itemFormed_walk x hx
  have h2 := vecHas_walk s.heard x.dot.node x.dot.seq x.dot.at' (by omega)
  unfold heldB hasB storeB
  cases hf : itemOk x with
  | false =>
    rw [hf] at h1
    refine NCall.call (h1) rfl rfl ?_
    exact NRet.mk [] rfl ⟨.refl _, rfl⟩
  | true =>
    rw [hf] at h1
    refine NCall.call (h1) rfl rfl ?_
    refine NCall.call (h2) rfl rfl ?_
    refine NB.mk (fun hk1 => ?_) (fun hk1 => ?_)
    · refine NRet.boolE (b := false) ?_ (NRet.mk [] rfl ⟨.refl _, rfl⟩)
      (simp [*]; done)
    refine NRet.boolE (b := true) ?_ (NRet.mk [] rfl ⟨.refl _, rfl⟩)
    (simp [*]; done)
theorem indexIs_walk (g : Nat) (s : Store) (l : List Item) (p : Item → Bool) (hl : l.length ≤ 2 ^ 38) (hg : ∀ x ∈ l, ACalls Try.prog g [itemA x, .ptr 0 0 0] [storeB s] (.bool (p x)) [storeB s]) :
    ACalls Try.prog Nm.slices_IndexFunc_api_Item_api_Item [itemsA l, .fn g [.ptr 0 0 0]] [storeB s] (i64 (ixI p l)) [storeB s] := by
  refine ACalls_of tab (dr_snd tab mixed) Nm.slices_IndexFunc_api_Item_api_Item_h rfl (by kernel_rfl) (Nat.le_of_ble_eq_true rfl) rfl ?_
  refine NLoop.mk [] [0, 1, 6, 7, 8] (fun m vs H => ∃ i, i ≤ l.length ∧ m = l.length - i ∧ (∀ x ∈ l.take i, p x = false) ∧ H = [storeB s] ∧ vs = [itemsA l, .fn g [.ptr 0 0 0], itemsA l, i64 l.length, i64 i]) rfl ?_ ?_
  · exact Canon.mk [] rfl ⟨l.length, 0, Nat.zero_le _, rfl, by simp, rfl, by simp [itemsA, i64]⟩
  · rintro m vs H ⟨i, hi, rfl, ht, rfl, rfl⟩
    by_cases hil : i < l.length
    · have hc := hg _ (List.getElem_mem hil)
      obtain ⟨f1, f2⟩ := find_step hil ht
      cases hp : p l[i] with
      | true =>
        rw [hp] at hc
        rw [f1 hp]
        refine ND.yes (by omega) ?_
        refine NP.mk (by omega) ?_
        refine NG.mapN (by omega) ?_
        refine NCall.atA (hc) ?_
        exact NRet.mk [] rfl ⟨.refl _, rfl⟩
      | false =>
        rw [hp] at hc
        refine ND.yes (by omega) ?_
        refine NP.mk (by omega) ?_
        refine NG.mapN (by omega) ?_
        refine NCall.atA (hc) ?_
        refine NW.i64 (by omega) (by omega) ?_
        exact Canon.mk [] rfl ⟨l.length - (i + 1), by omega, i + 1, by omega, rfl, f2 hp, rfl, rfl⟩
    · have : i = l.length := by omega
      subst this
      rw [List.take_length] at ht
      rw [find_none ht]
      refine ND.no (by omega) ?_
      exact NRet.mk [] rfl ⟨.refl _, rfl⟩
theorem containsIs_walk (g : Nat) (s : Store) (l : List Item) (p : Item → Bool) (hl : l.length ≤ 2 ^ 38) (hg : ∀ x ∈ l, ACalls Try.prog g [itemA x, .ptr 0 0 0] [storeB s] (.bool (p x)) [storeB s]) :
    ACalls Try.prog Nm.slices_ContainsFunc_api_Item_api_Item [itemsA l, .fn g [.ptr 0 0 0]] [storeB s] (.bool (l.any p)) [storeB s] := by
  have hi := indexIs_walk g s l p hl hg
  refine ACalls_of tab (dr_snd tab mixed) Nm.slices_ContainsFunc_api_Item_api_Item_h rfl (by kernel_rfl) (Nat.le_of_ble_eq_true rfl) rfl ?_
  rw [ixI_any]
  by_cases h : 0 ≤ ixI p l
  · rw [decide_eq_true h]
    refine NCall.atA (hi) ?_
    refine ND.yes (by omega) ?_
    exact NRet.mk [] rfl ⟨.refl _, rfl⟩
  · rw [decide_eq_false h]
    refine NCall.atA (hi) ?_
    refine ND.no (by omega) ?_
    exact NRet.mk [] rfl ⟨.refl _, rfl⟩
def smS (s : Store) : Prop := s.heard.length ≤ 2 ^ 38 ∧ s.items.length ≤ 50000 ∧ ∀ x ∈ s.items, smItem x
theorem sound_walk (s : Store) (hs : smS s) : ACalls Try.prog Nm.store_Sound [storeA s] [] (.bool (soundS s)) [] := by
  refine ACalls_of tab (dr_snd tab mixed) Nm.store_Sound_h rfl (by kernel_rfl) (Nat.le_of_ble_eq_true rfl) rfl ?_
  obtain ⟨h1, h2, h3⟩ := hs
  have k1 := vecTrim_walk s.heard (by omega)
  have k2 := equalV_walk (trim s.heard) s.heard (by have := trim_len s.heard; omega)
  have k3 := containsV_walk Nm.store_Sound_1 s.heard (fun n => decide (1073741824 < n)) (by omega) (fun n _ => soundF1_walk n)
  have k4 := norm_list s.items (by omega)
  have k5 := equalI_walk (norm s.items) s.items (by have := norm_len s.items; omega)
  have k6 := containsIs_walk Nm.store_Sound_2 s s.items (fun x => !heldB s.heard x) (by omega) (fun x hx => soundF2_walk s x h1 (h3 x hx))
  have e6 : (s.items.any fun x => !heldB s.heard x) = !(s.items.all (heldB s.heard)) := by rw [List.not_all_eq_any_not]
  rw [e6] at k6
  unfold soundS vecOk
  rw [all_le]
  unfold storeB at k6
  refine NP.mk (by kernel_rfl) ?_
  apply NDr.rd [0]
  · intro fH TH
    exact ⟨rfl, rfl⟩
  apply NDr.rd [0]
  · intro fH TH
    exact ⟨rfl, rfl⟩
  apply NDr.pure
  · exact ⟨rfl, rfl⟩
  apply NDr.pure
  · exact NB.det
  apply NDr.pure
  · exact ⟨rfl, rfl⟩
  refine NB.mk (fun hk2 => ?_) (fun hk2 => ?_)
  · refine NB.yes (by assumption) ?_
    refine NB.yes (by assumption) ?_
    refine NB.yes (by assumption) ?_
    refine NB.yes (by assumption) ?_
    refine NB.yes (by assumption) ?_
    refine NB.yes (by assumption) ?_
    apply NDr.pure
    · refine NB.yes (by assumption) ?_
      exact ⟨rfl, rfl⟩
    apply NDr.pure
    · exact ⟨rfl, rfl⟩
    apply NDr.pure
    · exact ⟨rfl, rfl⟩
    refine NP.mk (by kernel_rfl) ?_
    refine NRet.boolE (b := false) ?_ (NRet.mk [] rfl ⟨.refl _, rfl⟩)
    grind
  apply NDr.rd [0]
  · intro fH TH
    exact ⟨rfl, rfl⟩
  refine NB.no (by assumption) ?_
  apply NDr.rd [0]
  · intro fH TH
    exact ⟨rfl, rfl⟩
  refine NB.no (by assumption) ?_
  apply NDr.pure
  · refine NCall.call (k1) rfl rfl ?_
    exact ⟨rfl, rfl⟩
  refine NB.no (by assumption) ?_
  apply NDr.rd [0]
  · intro fH TH
    exact ⟨rfl, rfl⟩
  refine NB.no (by assumption) ?_
  apply NDr.rd [0]
  · intro fH TH
    exact ⟨rfl, rfl⟩
  refine NB.no (by assumption) ?_
  apply NDr.pure
  · refine NCall.call (k2) rfl rfl ?_
    exact ⟨rfl, rfl⟩
  refine NB.no (by assumption) ?_
  apply NDr.pure
  · exact NB.det0'
  apply NDr.pure
  · refine NB.no (by assumption) ?_
    exact ⟨rfl, rfl⟩
  apply NDr.pure
  · exact ⟨rfl, rfl⟩
  refine NB.mk (fun hk17 => ?_) (fun hk17 => ?_)
  · refine NB.yes (by assumption) ?_
    refine NB.yes (by assumption) ?_
    apply NDr.pure
    · refine NB.yes (by assumption) ?_
      exact ⟨rfl, rfl⟩
    refine NP.mk (by kernel_rfl) ?_
    refine NRet.boolE (b := false) ?_ (NRet.mk [] rfl ⟨.refl _, rfl⟩)
    grind
  apply NDr.rd [0]
  · intro fH TH
    exact ⟨rfl, rfl⟩
  refine NB.no (by assumption) ?_
  apply NDr.rd [0]
  · intro fH TH
    exact ⟨rfl, rfl⟩
  refine NB.no (by assumption) ?_
  apply NDr.pure
  · refine NCall.call (k3) rfl rfl ?_
    exact ⟨rfl, rfl⟩
  apply NDr.pure
  · refine NB.no (by assumption) ?_
    exact ⟨rfl, rfl⟩
  refine NP.mk (by kernel_rfl) ?_
  refine NB.mk (fun hk24 => ?_) (fun hk24 => ?_)
  · refine NRet.boolE (b := false) ?_ (NRet.mk [] rfl ⟨.refl _, rfl⟩)
    (simp [*]; done)
  refine NP.mk (by kernel_rfl) ?_
  apply NDr.rd [0]
  · intro fH TH
    exact ⟨rfl, rfl⟩
  apply NDr.rd [0]
  · intro fH TH
    exact ⟨rfl, rfl⟩
  apply NDr.pure
  · refine NCall.call (k4) rfl rfl ?_
    exact ⟨rfl, rfl⟩
  apply NDr.rd [0]
  · intro fH TH
    exact ⟨rfl, rfl⟩
  apply NDr.rd [0]
  · intro fH TH
    exact ⟨rfl, rfl⟩
  apply NDr.pure
  · refine NCall.call (k5) rfl rfl ?_
    exact ⟨rfl, rfl⟩
  apply NDr.pure
  · exact NB.det0'
  refine NP.mk (by kernel_rfl) ?_
  refine NB.mk (fun hk25 => ?_) (fun hk25 => ?_)
  · refine NRet.boolE (b := false) ?_ (NRet.mk [] rfl ⟨.refl _, rfl⟩)
    grind
  refine NCall.atA (k6) ?_
  refine NB.mk (fun hk26 => ?_) (fun hk26 => ?_)
  · refine NRet.boolE (b := false) ?_ (NRet.mk [] rfl ⟨.refl _, rfl⟩)
    grind
  refine NRet.boolE (b := true) ?_ (NRet.mk [] rfl ⟨.refl _, rfl⟩)
  grind
theorem storeDo_walk (s : Store) (t : Txn) (hs : smS s) (ht : smTxn t) (hn : t.effs.length ≤ 100) : ACalls Try.prog Nm.store_Do [storeA s, txnA t] [] (if formed t = true then if hasB s.heard t.node t.seq = true then .tup [storeA ⟨[], []⟩, i64 8] else if ready s.heard t = true then .tup [storeA (doT s t), i64 0] else .tup [storeA ⟨[], []⟩, i64 9] else .tup [storeA ⟨[], []⟩, i64 2]) [] := by
  refine ACalls_of tab (dr_snd tab mixed) Nm.store_Do_h rfl (by kernel_rfl) (Nat.le_of_ble_eq_true rfl) rfl ?_
  obtain ⟨h1, h2, h3⟩ := hs
  have k1 := formed_walk t ht
  have k2 := dot_walk t
  have k3 := vecHas_walk s.heard t.node t.seq 0 (by omega)
  have k4 := ready_walk s.heard t h1 (by have := ht.2.1; omega) ht.1
  have k5 := next_walk s.heard t (by omega)
  have k6 := do_walk s.items t.node t.seq t.effs h2 (by omega) ht.2.2.2
  obtain ⟨r, hr⟩ : ∃ r, r = (if formed t = true then if hasB s.heard t.node t.seq = true then AV.tup [storeA ⟨[], []⟩, i64 8] else if ready s.heard t = true then .tup [storeA (doT s t), i64 0] else .tup [storeA ⟨[], []⟩, i64 9] else .tup [storeA ⟨[], []⟩, i64 2]) := ⟨_, rfl⟩
  rw [← hr]
  cases e1 : formed t with
  | false =>
    rw [e1] at k1 hr
    rw [if_neg (by simp)] at hr
    subst hr
    refine NCall.call (k1) rfl rfl ?_
    exact NRet.mk [] rfl ⟨by repeat (first | exact LeA.refl _ | exact LeA.nils _ | refine LeA.agg ?_ | refine LeA.tup ?_ | exact LeAs.nil | refine LeAs.cons ?_ ?_), rfl⟩
  | true =>
    rw [e1] at k1 hr
    rw [if_pos rfl] at hr
    cases e2 : hasB s.heard t.node t.seq with
    | true =>
      rw [e2, if_pos rfl] at hr
      unfold hasB at e2
      rw [e2] at k3
      subst hr
      refine NCall.call (k1) rfl rfl ?_
      refine NP.mk (by kernel_rfl) ?_
      apply NDr.rd [0]
      · intro fH TH
        exact ⟨rfl, rfl⟩
      apply NDr.rd [0]
      · intro fH TH
        exact ⟨rfl, rfl⟩
      apply NDr.rd [1]
      · intro fH TH
        exact ⟨rfl, rfl⟩
      apply NDr.pure
      · refine NCall.call (k2) rfl rfl ?_
        exact ⟨rfl, rfl⟩
      apply NDr.pure
      · refine NCall.call (k3) rfl rfl ?_
        exact ⟨rfl, rfl⟩
      apply NDr.pure
      · exact ⟨rfl, rfl⟩
      refine NP.mk (by kernel_rfl) ?_
      exact NRet.mk [] rfl ⟨by repeat (first | exact LeA.refl _ | exact LeA.nils _ | refine LeA.agg ?_ | refine LeA.tup ?_ | exact LeAs.nil | refine LeAs.cons ?_ ?_), rfl⟩
    | false =>
      rw [e2, if_neg (by simp)] at hr
      unfold hasB at e2
      rw [e2] at k3
      cases e3 : ready s.heard t with
      | false =>
        rw [e3] at k4 hr
        rw [if_neg (by simp)] at hr
        subst hr
        refine NCall.call (k1) rfl rfl ?_
        refine NP.mk (by kernel_rfl) ?_
        apply NDr.rd [0]
        · intro fH TH
          exact ⟨rfl, rfl⟩
        apply NDr.rd [0]
        · intro fH TH
          exact ⟨rfl, rfl⟩
        apply NDr.rd [1]
        · intro fH TH
          exact ⟨rfl, rfl⟩
        apply NDr.pure
        · refine NCall.call (k2) rfl rfl ?_
          exact ⟨rfl, rfl⟩
        apply NDr.pure
        · refine NCall.call (k3) rfl rfl ?_
          exact ⟨rfl, rfl⟩
        apply NDr.pure
        · exact ⟨rfl, rfl⟩
        refine NP.mk (by kernel_rfl) ?_
        refine NCall.call (k4) rfl rfl ?_
        exact NRet.mk [] rfl ⟨by repeat (first | exact LeA.refl _ | exact LeA.nils _ | refine LeA.agg ?_ | refine LeA.tup ?_ | exact LeAs.nil | refine LeAs.cons ?_ ?_), rfl⟩
      | true =>
        rw [e3] at k4 hr
        rw [if_pos rfl] at hr
        subst hr
        refine NCall.call (k1) rfl rfl ?_
        refine NP.mk (by kernel_rfl) ?_
        apply NDr.rd [0]
        · intro fH TH
          exact ⟨rfl, rfl⟩
        apply NDr.rd [0]
        · intro fH TH
          exact ⟨rfl, rfl⟩
        apply NDr.rd [1]
        · intro fH TH
          exact ⟨rfl, rfl⟩
        apply NDr.pure
        · refine NCall.call (k2) rfl rfl ?_
          exact ⟨rfl, rfl⟩
        apply NDr.pure
        · refine NCall.call (k3) rfl rfl ?_
          exact ⟨rfl, rfl⟩
        apply NDr.pure
        · exact ⟨rfl, rfl⟩
        refine NP.mk (by kernel_rfl) ?_
        refine NCall.call (k4) rfl rfl ?_
        refine NP.mk (by kernel_rfl) ?_
        apply NDr.rd [0]
        · intro fH TH
          exact ⟨rfl, rfl⟩
        apply NDr.rd [0]
        · intro fH TH
          exact ⟨rfl, rfl⟩
        apply NDr.rd [1]
        · intro fH TH
          exact ⟨rfl, rfl⟩
        apply NDr.pure
        · refine NCall.call (k5) rfl rfl ?_
          exact ⟨rfl, rfl⟩
        apply NDr.rd [0]
        · intro fH TH
          exact ⟨rfl, rfl⟩
        apply NDr.rd [0]
        · intro fH TH
          exact ⟨rfl, rfl⟩
        apply NDr.rd [1]
        · intro fH TH
          exact ⟨rfl, rfl⟩
        apply NDr.rd [1]
        · intro fH TH
          exact ⟨rfl, rfl⟩
        apply NDr.rd [1]
        · intro fH TH
          exact ⟨rfl, rfl⟩
        apply NDr.rd [1]
        · intro fH TH
          exact ⟨rfl, rfl⟩
        apply NDr.rd [1]
        · intro fH TH
          exact ⟨rfl, rfl⟩
        apply NDr.rd [1]
        · intro fH TH
          exact ⟨rfl, rfl⟩
        apply NDr.pure
        · refine NCall.call (k6) rfl rfl ?_
          exact ⟨rfl, rfl⟩
        apply NDr.pure
        · exact ⟨rfl, rfl⟩
        apply NDr.efw [2]
        · exact ⟨rfl, rfl⟩
        · repeat (first | exact True.intro | refine ⟨by first | exact rfl | exact True.intro, ?_⟩)
        apply NDr.pure
        · exact ⟨rfl, rfl⟩
        refine NP.mk (by kernel_rfl) ?_
        exact NRet.mk [] rfl ⟨.refl _, rfl⟩
theorem cloneI_list (l : List Item) (hl : l.length ≤ 2 ^ 38) : ACalls Try.prog Nm.slices_Clone_api_Item_api_Item [itemsA l] [] (itemsA l) [] := (cloneI_walk l hl).drop (dropL (by simp))
theorem chain_at : ∀ {c : List Txn} {v : List Int} {i : Nat}, chain v c = true → ∀ h : i < c.length, ready (nexts v (c.take i)) c[i] = true
  | [], _, _, _, h => by simp at h
  | t :: c, v, 0, hc, _ => ((chain_cons v t c).1 hc).1
  | t :: c, v, i + 1, hc, h => by
    have := chain_at ((chain_cons v t c).1 hc).2 (i := i) (by simpa using h)
    simpa [nexts_cons] using this
theorem ready_old {v : List Int} {t : Txn} (h : ready v t = true) : hasB v t.node t.seq = false := by
  obtain ⟨_, h2, _⟩ := (ready_iff v t).1 h
  unfold hasB
  exact decide_eq_false (by omega)
theorem foldl_heard (l : List Txn) (s : Store) : (l.foldl doT s).heard = nexts s.heard l := by rw [foldl_doT]
theorem foldl_snoc' {α β : Type} (f : β → α → β) (b : β) {l : List α} {i : Nat} (h : i < l.length) : (l.take (i + 1)).foldl f b = f ((l.take i).foldl f b) l[i] := by
  rw [List.take_succ_eq_append_getElem h, List.foldl_append]; rfl
theorem do_mem {n s : Int} {es : List Eff} {X : List Item} {x : Item} (h : x ∈ doL n s X es) : x ∈ X ∨ ∃ e ∈ es, x = made n s e := by
  by_cases he : es = []
  · subst he; exact .inl h
  · rw [doL_raw he] at h
    rcases (mem_rawL es X x).1 (norm_mem h) with ⟨h, _⟩ | h
    · exact .inl h
    · obtain ⟨e, he, _, rfl⟩ := madeBy_ex h
      exact .inr ⟨e, he, rfl⟩
theorem done_sm : ∀ (l : List Txn) {s : Store}, (s.heard.length ≤ 2 ^ 38 ∧ s.items.length ≤ 40000 ∧ ∀ x ∈ s.items, smItem x) → (∀ t ∈ l, formed t = true) → (∀ t ∈ l, smTxn t) → l.length ≤ 1000 → smS (l.foldl doT s) := by
  have : ∀ (l : List Txn) {s : Store}, s.heard.length ≤ 2 ^ 38 → s.items.length + 8 * l.length ≤ 50000 → (∀ x ∈ s.items, smItem x) → (∀ t ∈ l, formed t = true) → (∀ t ∈ l, smTxn t) → smS (l.foldl doT s) := by
    intro l
    induction l with
    | nil => intro s h1 h2 h3 _ _; exact ⟨h1, by simpa using h2, h3⟩
    | cons t l ih =>
      intro s h1 h2 h3 hf hx
      rw [List.length_cons] at h2
      have ht := formed_len (hf t (List.mem_cons_self ..))
      have hd := doL_len (n := t.node) (s := t.seq) t.effs s.items
      rw [List.foldl_cons]
      refine ih (s := doT s t) ?_ ?_ ?_ (fun t' h' => hf t' (List.mem_cons_of_mem _ h')) (fun t' h' => hx t' (List.mem_cons_of_mem _ h'))
      · have := next_len s.heard t
        show (next s.heard t).length ≤ _
        omega
      · show (doL t.node t.seq s.items t.effs).length + _ ≤ _
        omega
      · intro x hx'
        rcases do_mem (show x ∈ doL t.node t.seq s.items t.effs from hx') with h | ⟨e, he, rfl⟩
        · exact h3 x h
        · exact smMade ((hx t (List.mem_cons_self ..)).2.2.2 e he)
  exact fun l s h hf hx hl => this l h.1 (by omega) h.2.2 hf hx
theorem storeAll_walk (s : Store) (l : List Txn) (hs : smS s) (hl : l.length ≤ 1000) (hx : ∀ t ∈ l, smTxn t) (hi : s.items.length ≤ 40000) : ACalls Try.prog Nm.store_All [storeA s, txnsA l] [] (.tup [storeA (allS s l).1, txnsA (allS s l).2]) [] := by
  refine ACalls_of tab (dr_snd tab mixed) Nm.store_All_h rfl (by kernel_rfl) (Nat.le_of_ble_eq_true rfl) rfl ?_
  obtain ⟨h1, h2, h3⟩ := hs
  have k1 := cloneV_list s.heard (by omega)
  have k2 := cloneI_list s.items (by omega)
  refine NP.mk (by kernel_rfl) ?_
  apply NDr.rd [0]
  · intro fH TH
    exact ⟨rfl, rfl⟩
  apply NDr.rd [0]
  · intro fH TH
    exact ⟨rfl, rfl⟩
  apply NDr.pure
  · refine NCall.call (k1) rfl rfl ?_
    exact ⟨rfl, rfl⟩
  apply NDr.rd [0]
  · intro fH TH
    exact ⟨rfl, rfl⟩
  apply NDr.rd [0]
  · intro fH TH
    exact ⟨rfl, rfl⟩
  apply NDr.pure
  · refine NCall.call (k2) rfl rfl ?_
    exact ⟨rfl, rfl⟩
  apply NDr.pure
  · exact ⟨rfl, rfl⟩
  apply NDr.rd [0]
  · intro fH TH
    exact ⟨rfl, rfl⟩
  refine NP.mk (by kernel_rfl) ?_
  refine NLoop.mk [(6, .agg 4)] [2, 4, 6, 20, 21, 22] (fun m vs H => ∃ i, i ≤ l.length ∧ m = l.length - i ∧ H = [.row .box (.agg 2) [.agg (storeC s)], .row .box (.agg 2) [.agg [.nils, .nils]], .row .vrow (.agg 4) (((l.take i).filter okT).map txnA)] ∧
    vs = [.ptr 0 0 0, .ptr 1 0 0, .own 2 0 (((l.take i).filter okT).map txnA).length, txnsA l, i64 l.length, i64 i]) rfl ?_ ?_
  · exact Canon.mk [0, 1, 2] rfl ⟨l.length, 0, Nat.zero_le _, rfl, rfl, by simp [txnsA, i64]⟩
  rintro m vs H ⟨i, hil, rfl, rfl, rfl⟩
  by_cases hil : i < l.length
  · have hsn := filter_take okT l hil
    have hfl : ((l.take i).filter okT).length ≤ i := Nat.le_trans (List.length_filter_le _ _) (by rw [List.length_take]; omega)
    have k3 := formed_walk l[i] (hx _ (List.getElem_mem hil))
    generalize (l.take i).filter okT = F at *
    cases hp : formed l[i] with
    | true =>
      rw [show okT l[i] = true from hp, if_pos rfl] at hsn
      rw [hp] at k3
      refine ND.yes (by omega) ?_
      refine NP.mk (by omega) ?_
      refine NG.mapN (by omega) ?_
      refine NCall.call (k3) rfl rfl ?_
      refine NFz.own ?_
      refine NApp.endA rfl (by simp; omega) ?_
      refine NW.i64 (by omega) (by omega) ?_
      exact Canon.mk [0, 1, 4] rfl ⟨l.length - (i + 1), by omega, i + 1, by omega, rfl, by rw [hsn, List.map_append]; rfl, by rw [hsn, List.map_append]; rfl⟩
    | false =>
      rw [show okT l[i] = false from hp, if_neg (by simp)] at hsn
      rw [hp] at k3
      refine ND.yes (by omega) ?_
      refine NP.mk (by omega) ?_
      refine NG.mapN (by omega) ?_
      refine NCall.call (k3) rfl rfl ?_
      refine NW.i64 (by omega) (by omega) ?_
      exact Canon.mk [0, 1, 2] rfl ⟨l.length - (i + 1), by omega, i + 1, by omega, rfl, by rw [hsn] <;> rfl, by rw [hsn] <;> rfl⟩
  have : i = l.length := by omega
  subst this
  rw [List.take_length]
  have hF : ∀ t ∈ l.filter okT, smTxn t := fun t ht => hx t (List.mem_filter.1 ht).1
  have hFl := List.length_filter_le okT l
  have k4 := take_walk s.heard (l.filter okT) (by omega) (by omega) hF
  refine ND.no (by omega) ?_
  refine NCall.eq (by simp only [List.length_map] <;> exact rfl) ?_
  refine NCall.frzAllN [2] (k4) (.cons (.same _) (.cons (.own (by simp) rfl (by simp) (by simp) (by rw [List.drop_zero, List.take_of_length_le (by simp)])) .nil)) rfl rfl rfl ?_
  have hc := takeT_chain s.heard (l.filter okT)
  have hcf := done_formed (v := s.heard) (l := l)
  have hcl := takeT_len s.heard (l.filter okT)
  have hcx : ∀ t ∈ (takeT s.heard (l.filter okT)).1, smTxn t := fun t ht => hF t (takeT_mem ht)
  have hall : allS s l = ((takeT s.heard (l.filter okT)).1.foldl doT s, (takeT s.heard (l.filter okT)).1) := rfl
  rw [hall]
  generalize (takeT s.heard (l.filter okT)).1 = c at *
  refine NLoop.mk [] [2, 4, 9, 40, 41, 42] (fun m vs H => ∃ i, i ≤ c.length ∧ m = c.length - i ∧ H = [.row .box (.agg 2) [.agg (storeC ((c.take i).foldl doT s))], .row .box (.agg 2) [.agg [.nils, .nils]]] ∧
    vs = [.ptr 0 0 0, .ptr 1 0 0, txnsA c, txnsA c, i64 c.length, i64 i]) rfl ?_ ?_
  · exact Canon.mk [0, 1] rfl ⟨c.length, 0, Nat.zero_le _, rfl, rfl, by simp [txnsA, i64]⟩
  rintro m vs H ⟨i, hil, rfl, rfl, rfl⟩
  by_cases hil : i < c.length
  · have hsn := foldl_snoc' doT s hil
    have hsm := done_sm (c.take i) ⟨h1, hi, h3⟩ (fun t ht => hcf t (List.mem_of_mem_take ht)) (fun t ht => hcx t (List.mem_of_mem_take ht)) (by rw [List.length_take]; omega)
    have hr := chain_at hc hil
    rw [← foldl_heard] at hr
    have hf := hcf _ (List.getElem_mem hil)
    have k5 := storeDo_walk ((c.take i).foldl doT s) c[i] hsm (hcx _ (List.getElem_mem hil)) (by have := formed_len hf; omega)
    rw [if_pos hf, if_neg (by rw [ready_old hr]; simp), if_pos hr] at k5
    rw [← hsn] at k5
    generalize (c.take i).foldl doT s = u at *
    obtain ⟨w, hw⟩ : ∃ w, w = (c.take (i + 1)).foldl doT s := ⟨_, rfl⟩
    rw [← hw] at k5
    refine ND.yes (by omega) ?_
    refine NP.mk (by omega) ?_
    refine NG.mapN (by omega) ?_
    refine NCall.call (k5) rfl rfl ?_
    refine NW.i64 (by omega) (by omega) ?_
    exact Canon.mk [0, 1] rfl ⟨c.length - (i + 1), by omega, i + 1, by omega, rfl, by rw [← hw] <;> rfl, rfl⟩
  have : i = c.length := by omega
  subst this
  rw [List.take_length]
  refine ND.no (by omega) ?_
  exact NRet.mk [] rfl ⟨.refl _, rfl⟩
theorem same15_walk (a b : Store) (ha : a.heard.length ≤ 2 ^ 38) (hai : a.items.length ≤ 2 ^ 38) : ACalls Try.prog Nm.ref15_Same [storeA a, storeA b] [] (.bool (decide (a = b))) [] := by
  refine ACalls_of tab (dr_snd tab mixed) Nm.ref15_Same_h rfl (by kernel_rfl) (Nat.le_of_ble_eq_true rfl) rfl ?_
  have h1 := equal7_walk a.heard b.heard (by omega)
  have h2 := same9_walk a.items b.items hai
  by_cases e1 : a.heard = b.heard
  · rw [decide_eq_true e1] at h1
    by_cases e2 : a.items = b.items
    · rw [decide_eq_true e2] at h2
      rw [decide_eq_true (show a = b from Store.ext e1 e2)]
      refine NCall.call (h1) rfl rfl ?_
      refine NCall.call (h2) rfl rfl ?_
      exact NRet.mk [] rfl ⟨.refl _, rfl⟩
    · rw [decide_eq_false e2] at h2
      rw [decide_eq_false fun e => e2 (by rw [e])]
      refine NCall.call (h1) rfl rfl ?_
      refine NCall.call (h2) rfl rfl ?_
      exact NRet.mk [] rfl ⟨.refl _, rfl⟩
  · rw [decide_eq_false e1] at h1
    rw [decide_eq_false fun e => e1 (by rw [e])]
    refine NCall.call (h1) rfl rfl ?_
    exact NRet.mk [] rfl ⟨.refl _, rfl⟩
def shortS (s : Store) : Bool := decide (s.heard.length ≤ 60) && shortIs s.items
theorem short15_walk (s : Store) (h1 : s.heard.length ≤ 2 ^ 47) (h2 : s.items.length ≤ 2 ^ 47) (hx : ∀ x ∈ s.items, okItem x) : ACalls Try.prog Nm.ref15_Short [storeA s] [] (.bool (shortS s)) [] := by
  refine ACalls_of tab (dr_snd tab mixed) Nm.ref15_Short_h rfl (by kernel_rfl) (Nat.le_of_ble_eq_true rfl) rfl ?_
  have k1 := short9_walk s.items h2 hx
  unfold shortS
  by_cases h : s.heard.length ≤ 60
  · rw [decide_eq_true h, Bool.true_and]
    refine ND.yes (by (simp only [List.length_map, List.length_append, List.length_replicate, List.length_cons, List.length_nil, List.length_take, List.length_drop]; omega)) ?_
    refine NCall.call (k1) rfl rfl ?_
    exact NRet.mk [] rfl ⟨.refl _, rfl⟩
  · rw [decide_eq_false h, Bool.false_and]
    refine ND.no (by (simp only [List.length_map, List.length_append, List.length_replicate, List.length_cons, List.length_nil, List.length_take, List.length_drop]; omega)) ?_
    exact NRet.mk [] rfl ⟨.refl _, rfl⟩
end Go.Bv
namespace Go.Bv
set_option linter.unusedSimpArgs false
set_option linter.unusedVariables false
set_option maxHeartbeats 4000000
open Go Go.Proofs
theorem shortT_sm {l : List Txn} (h : shortT l = true) (ho : ∀ t ∈ l, okTxn t) : l.length ≤ 24 ∧ ∀ t ∈ l, smTxn t := by
  unfold shortT at h
  rw [Bool.and_eq_true, List.all_eq_true] at h
  refine ⟨of_decide_eq_true h.1, fun t ht => ?_⟩
  have := h.2 t ht
  rw [Bool.and_eq_true] at this
  obtain ⟨h1, h2⟩ := this
  have h1 := of_decide_eq_true h1
  unfold shortEs at h2
  rw [Bool.and_eq_true, List.all_eq_true] at h2
  have h3 := of_decide_eq_true h2.1
  refine ⟨(ho t ht).2.1, by omega, by omega, fun e he => ?_⟩
  have := of_decide_eq_true (h2.2 e he)
  exact ⟨by omega, by omega, by omega, by omega⟩
end Go.Bv
namespace Go.Bv
set_option linter.unusedSimpArgs false
set_option linter.unusedVariables false
set_option maxHeartbeats 4000000
open Go Go.Proofs
def rot (l : List Txn) (r : Nat) : List Txn := l.drop r ++ l.take r
theorem rot_perm (l : List Txn) (r : Nat) : (rot l r).reverse.Perm l := by
  refine (List.reverse_perm _).trans ?_
  unfold rot
  refine List.perm_append_comm.trans ?_
  rw [List.take_append_drop]
theorem rot_len {l : List Txn} {r : Nat} : (rot l r).reverse.length = l.length := (rot_perm l r).length_eq
theorem rot_get {l : List Txn} {r q : Nat} (hr : r < l.length) (hq : q < l.length) : (rot l r).reverse[q]'(by rw [rot_len]; exact hq) = l[(l.length - 1 - q + r) % l.length]'(Nat.mod_lt _ (by omega)) := by
  rw [List.getElem_reverse]
  have hl : (rot l r).length = l.length := by have := rot_len (l := l) (r := r); simpa using this
  unfold rot
  rw [List.getElem_append]
  split
  · rename_i h
    rw [List.getElem_drop]
    simp only [List.length_drop, List.length_append, List.length_take] at h ⊢
    congr 1
    rw [Nat.mod_eq_of_lt (by omega)]; omega
  · rename_i h
    rw [List.getElem_take]
    simp only [List.length_drop, List.length_append, List.length_take] at h ⊢
    congr 1
    rw [Nat.mod_eq_sub_mod (by omega), Nat.mod_eq_of_lt (by omega)]; omega
end Go.Bv
namespace Go.Bv
set_option linter.unusedSimpArgs false
set_option linter.unusedVariables false
set_option maxHeartbeats 4000000
set_option maxRecDepth 20000
open Go Go.Proofs
theorem shortIs_sm {l : List Item} (h : shortIs l = true) : l.length ≤ 60 ∧ ∀ e ∈ l, smItem e := by
  unfold shortIs at h
  rw [Bool.and_eq_true, List.all_eq_true] at h
  refine ⟨of_decide_eq_true h.1, fun e he => ?_⟩
  have := of_decide_eq_true (h.2 e he)
  exact ⟨by omega, by omega, by omega⟩
theorem shortS_sm {s : Store} (h : shortS s = true) : s.heard.length ≤ 60 ∧ s.items.length ≤ 60 ∧ ∀ x ∈ s.items, smItem x := by
  unfold shortS at h
  rw [Bool.and_eq_true] at h
  exact ⟨of_decide_eq_true h.1, shortIs_sm h.2⟩
def p15 (n : Int) : Txn := ⟨n, 1, [], [⟨0, [97], [], 2, [120], 0, []⟩]⟩
def i15 (n : Int) : Item := ⟨[97], [], 2, [120], 0, ⟨n, 1, 0⟩⟩
theorem do15 : [p15 1, p15 0].foldl doI [] = [i15 0, i15 1] := by
  have e1 : doI [] (p15 1) = [i15 1] := by
    show norm (rawE 1 1 [] ⟨0, [97], [], 2, [120], 0, []⟩) = _
    rw [show rawE 1 1 [] ⟨0, [97], [], 2, [120], 0, []⟩ = [i15 1] by decide]
    exact norm_self (by simp) (by simp)
  have e2 : doI [i15 1] (p15 0) = [i15 0, i15 1] := by
    show norm (rawE 0 1 [i15 1] ⟨0, [97], [], 2, [120], 0, []⟩) = _
    rw [show rawE 0 1 [i15 1] ⟨0, [97], [], 2, [120], 0, []⟩ = [i15 1, i15 0] by decide]
    rw [norm_congr (m := [i15 0, i15 1]) (fun x => by simp [or_comm])]
    refine norm_self ?_ ?_
    · simp only [List.pairwise_cons, List.mem_cons, List.not_mem_nil, or_false, forall_eq, false_implies, implies_true, List.Pairwise.nil, and_true]
      exact of_decide_eq_true (by decide : decide (ILt (i15 0) (i15 1)) = true)
    · simp only [List.pairwise_cons, List.mem_cons, List.not_mem_nil, or_false, forall_eq, false_implies, implies_true, List.Pairwise.nil, and_true]
      decide
  rw [List.foldl_cons, e1, List.foldl_cons, e2, List.foldl_nil]
theorem all15 : allS ⟨[], []⟩ [p15 1, p15 0] = (⟨[1, 1], [i15 0, i15 1]⟩, [p15 1, p15 0]) := by
  rw [allS_eq]
  simp only
  rw [show [p15 1, p15 0].filter okT = [p15 1, p15 0] by kernel_rfl, takeT_of_chain (by kernel_rfl)]
  simp only [do15]
  rfl
theorem sound15 : soundS ⟨[1, 1], [i15 0, i15 1]⟩ = true := by
  have h0 : soundS ⟨[], []⟩ = true := soundS_iff.2 ⟨by simp, ⟨rfl, by simp⟩, by unfold norm isort; simp [nubF], by simp⟩
  have := (all_sound h0 [p15 1, p15 0]).1
  rwa [all15] at this
theorem put15 (n : Int) : ACalls Try.prog Nm.law15_awake_1 [i64 n] [] (txnA (p15 n)) [] := by
  refine ACalls_of tab (dr_snd tab mixed) Nm.law15_awake_1_h rfl (by kernel_rfl) (Nat.le_of_ble_eq_true rfl) rfl ?_
  skip
  refine NRet.mk [] rfl ⟨?_, rfl⟩
  show LeA (.agg [i64 n, i64 1, .nils, .list (.agg 7) [.agg [i64 0, .str [97], .str [], i64 2, .str [120], i64 0, .nils]]]) (.agg [i64 n, i64 1, .list .leaf [], .list (.agg 7) [.agg [i64 0, .str [97], .str [], i64 2, .str [120], i64 0, .list (.agg 3) []]]])
  repeat (first | exact LeA.refl _ | exact LeA.nils _ | refine LeA.agg ?_ | refine LeA.list _ ?_ | exact LeAs.nil | refine LeAs.cons ?_ ?_)
theorem awake15 : ACalls Try.prog Nm.law15_awake [] [] (.bool true) [] := by
  refine ACalls_of tab (dr_snd tab mixed) Nm.law15_awake_h rfl (by kernel_rfl) (Nat.le_of_ble_eq_true rfl) rfl ?_
  have h1 := storeAll_walk ⟨[], []⟩ [p15 1, p15 0] ⟨by simp, by simp, by simp⟩ (by simp) (by simp [smTxn, okInt, p15, smEff]) (by simp)
  rw [all15] at h1
  have h2 := sound_walk ⟨[1, 1], [i15 0, i15 1]⟩ ⟨by simp, by simp, by simp [smItem, i15]⟩
  rw [sound15] at h2
  refine NCall.call (put15 1) rfl rfl ?_
  refine NCall.call (put15 0) rfl rfl ?_
  refine NCall.call (ACalls.args (h1) (by repeat (first | exact LeA.refl _ | exact LeA.nils _ | refine LeA.agg ?_ | refine LeA.list _ ?_ | exact LeAs.nil | refine LeAs.cons ?_ ?_))) rfl rfl ?_
  refine ND.yes (by rfl) ?_
  refine ND.yes (by rfl) ?_
  refine NP.mk (by omega) ?_
  refine NG.mapN (by (simp only [List.length_map, List.length_append, List.length_replicate, List.length_cons, List.length_nil, List.length_take, List.length_drop]; omega)) ?_
  refine ND.yes (by rfl) ?_
  refine NCall.call (h2) rfl rfl ?_
  exact NRet.mk [] rfl ⟨.refl _, rfl⟩
theorem okS {s : Store} (h : okStore s) : s.heard.length ≤ 2 ^ 47 ∧ s.items.length ≤ 2 ^ 47 := by
  have h1 := reach_lt h.1.1
  have h2 := reach_lt h.2.1
  omega
theorem done_len (s : Store) (l : List Txn) : (allS s l).2.length ≤ l.length := by
  unfold allS
  have h3 := takeT_len s.heard (l.filter okT)
  have h4 := List.length_filter_le okT l
  simp only; omega
theorem allS_sm {s : Store} {l : List Txn} (h : s.heard.length ≤ 2 ^ 38 ∧ s.items.length ≤ 40000 ∧ ∀ x ∈ s.items, smItem x) (hx : ∀ t ∈ l, smTxn t) (hl : l.length ≤ 1000) : smS (allS s l).1 := by
  unfold allS
  refine done_sm _ h done_formed (fun t ht => ?_) ?_
  · exact hx t (List.mem_filter.1 (takeT_mem ht)).1
  · have := done_len s l
    unfold allS at this
    simp only at this ⊢
    omega
theorem allS_len {s : Store} {l : List Txn} (hs : soundS s = true) : (allS s l).1.items.length ≤ s.items.length + 8 * l.length := by
  obtain ⟨_, h2, h3⟩ := all_sound hs l
  omega
theorem same15_self (s : Store) (h : smS s) : ACalls Try.prog Nm.ref15_Same [storeA s, storeA s] [] (.bool true) [] := by
  have := same15_walk s s h.1 (by have := h.2.1; omega)
  rwa [decide_eq_true rfl] at this
theorem storeSound_walk (s : Store) (l : List Txn) (hs : okStore s) (hl : l.length ≤ reachBytes) (hx : ∀ x ∈ l, okTxn x) : ACalls Try.prog Nm.law15_StoreSound [storeA s, txnsA l] [] (.bool true) [] := by
  refine ACalls_of tab (dr_snd tab mixed) Nm.law15_StoreSound_h rfl (by kernel_rfl) (Nat.le_of_ble_eq_true rfl) rfl ?_
  have hs' := okS hs
  have hl' := reach_lt hl
  have s1 := short15_walk s hs'.1 hs'.2 hs.2.2
  have s2 := short13_walk l (by omega) hx
  cases h1 : shortS s with
  | false =>
    rw [h1] at s1
    refine NCall.call (awake15) rfl rfl ?_
    refine NCall.call (s1) rfl rfl ?_
    exact NRet.mk [] rfl ⟨.refl _, rfl⟩
  | true =>
  rw [h1] at s1
  obtain ⟨b1, b2, b3⟩ := shortS_sm h1
  cases h2 : shortT l with
  | false =>
    rw [h2] at s2
    refine NCall.call (awake15) rfl rfl ?_
    refine NCall.call (s1) rfl rfl ?_
    refine NCall.call (s2) rfl rfl ?_
    exact NRet.mk [] rfl ⟨.refl _, rfl⟩
  | true =>
  rw [h2] at s2
  obtain ⟨c1, c2⟩ := shortT_sm h2 hx
  have s3 := sound_walk s ⟨by omega, by omega, b3⟩
  cases h3 : soundS s with
  | false =>
    rw [h3] at s3
    refine NCall.call (awake15) rfl rfl ?_
    refine NCall.call (s1) rfl rfl ?_
    refine NCall.call (s2) rfl rfl ?_
    refine NCall.call (s3) rfl rfl ?_
    exact NRet.mk [] rfl ⟨.refl _, rfl⟩
  | true =>
  rw [h3] at s3
  have s4 := storeAll_walk s l ⟨by omega, by omega, b3⟩ (by omega) c2 (by omega)
  obtain ⟨d1, d2, d3⟩ := all_sound h3 l
  have s5 := sound_walk (allS s l).1 (allS_sm ⟨by omega, by omega, b3⟩ c2 (by omega))
  rw [d1] at s5
  generalize (allS s l).1 = a at *
  generalize (allS s l).2 = done at *
  refine NCall.call (awake15) rfl rfl ?_
  refine NCall.call (s1) rfl rfl ?_
  refine NCall.call (s2) rfl rfl ?_
  refine NCall.call (s3) rfl rfl ?_
  refine NCall.call (s4) rfl rfl ?_
  refine NCall.call (s5) rfl rfl ?_
  refine ND.yes (by (simp only [List.length_map, List.length_append, List.length_replicate, List.length_cons, List.length_nil, List.length_take, List.length_drop]; omega)) ?_
  refine NW.i64 (by (simp only [List.length_map, List.length_append, List.length_replicate, List.length_cons, List.length_nil, List.length_take, List.length_drop]; omega)) (by (simp only [List.length_map, List.length_append, List.length_replicate, List.length_cons, List.length_nil, List.length_take, List.length_drop]; omega)) ?_
  refine NW.i64 (by (simp only [List.length_map, List.length_append, List.length_replicate, List.length_cons, List.length_nil, List.length_take, List.length_drop]; omega)) (by (simp only [List.length_map, List.length_append, List.length_replicate, List.length_cons, List.length_nil, List.length_take, List.length_drop]; omega)) ?_
  refine ND.yes (by (simp only [List.length_map, List.length_append, List.length_replicate, List.length_cons, List.length_nil, List.length_take, List.length_drop]; omega)) ?_
  exact NRet.mk [] rfl ⟨.refl _, rfl⟩
theorem storeAgain_walk (s : Store) (l : List Txn) (at' : Int) (hs : okStore s) (hl : l.length ≤ reachBytes) (hx : ∀ x ∈ l, okTxn x) : ACalls Try.prog Nm.law15_StoreAgain [storeA s, txnsA l, i64 at'] [] (.bool true) [] := by
  refine ACalls_of tab (dr_snd tab mixed) Nm.law15_StoreAgain_h rfl (by kernel_rfl) (Nat.le_of_ble_eq_true rfl) rfl ?_
  have hs' := okS hs
  have hl' := reach_lt hl
  have s1 := short15_walk s hs'.1 hs'.2 hs.2.2
  have s2 := short13_walk l (by omega) hx
  cases h1 : shortS s with
  | false =>
    rw [h1] at s1
    refine NCall.call (awake15) rfl rfl ?_
    refine NCall.call (s1) rfl rfl ?_
    exact NRet.mk [] rfl ⟨.refl _, rfl⟩
  | true =>
  rw [h1] at s1
  obtain ⟨b1, b2, b3⟩ := shortS_sm h1
  cases h2 : shortT l with
  | false =>
    rw [h2] at s2
    refine NCall.call (awake15) rfl rfl ?_
    refine NCall.call (s1) rfl rfl ?_
    refine NCall.call (s2) rfl rfl ?_
    exact NRet.mk [] rfl ⟨.refl _, rfl⟩
  | true =>
  rw [h2] at s2
  obtain ⟨c1, c2⟩ := shortT_sm h2 hx
  have s3 := twice14_walk l (by omega)
  cases h3 : twice l with
  | true =>
    rw [h3] at s3
    refine NCall.call (awake15) rfl rfl ?_
    refine NCall.call (s1) rfl rfl ?_
    refine NCall.call (s2) rfl rfl ?_
    refine NCall.call (s3) rfl rfl ?_
    exact NRet.mk [] rfl ⟨.refl _, rfl⟩
  | false =>
  rw [h3] at s3
  have s4 := sound_walk s ⟨by omega, by omega, b3⟩
  cases h4 : soundS s with
  | false =>
    rw [h4] at s4
    refine NCall.call (awake15) rfl rfl ?_
    refine NCall.call (s1) rfl rfl ?_
    refine NCall.call (s2) rfl rfl ?_
    refine NCall.call (s3) rfl rfl ?_
    refine NCall.call (s4) rfl rfl ?_
    exact NRet.mk [] rfl ⟨.refl _, rfl⟩
  | true =>
  rw [h4] at s4
  by_cases ha0 : at' < 0
  · refine NCall.call (awake15) rfl rfl ?_
    refine NCall.call (s1) rfl rfl ?_
    refine NCall.call (s2) rfl rfl ?_
    refine NCall.call (s3) rfl rfl ?_
    refine NCall.call (s4) rfl rfl ?_
    refine ND.yes (by omega) ?_
    exact NRet.mk [] rfl ⟨.refl _, rfl⟩
  by_cases ha1 : (l.length : Int) < at'
  · refine NCall.call (awake15) rfl rfl ?_
    refine NCall.call (s1) rfl rfl ?_
    refine NCall.call (s2) rfl rfl ?_
    refine NCall.call (s3) rfl rfl ?_
    refine NCall.call (s4) rfl rfl ?_
    refine ND.no (by omega) ?_
    refine ND.yes (by (simp only [List.length_map, List.length_append, List.length_replicate, List.length_cons, List.length_nil, List.length_take, List.length_drop]; omega)) ?_
    exact NRet.mk [] rfl ⟨.refl _, rfl⟩
  obtain ⟨n, rfl⟩ : ∃ n : Nat, at' = n := ⟨at'.toNat, by omega⟩
  obtain ⟨e1, e2, e3⟩ := store_again h4 h3 n
  have hb : s.heard.length ≤ 2 ^ 38 ∧ s.items.length ≤ 40000 ∧ ∀ x ∈ s.items, smItem x := ⟨by omega, by omega, b3⟩
  have c3 : ∀ t ∈ l.take n, smTxn t := fun t ht => c2 t (List.mem_of_mem_take ht)
  have m1 := allS_sm hb c2 (by omega)
  have m2 := allS_sm hb c3 (by rw [List.length_take]; omega)
  have n1 := allS_len (l := l) h4
  have n2 := allS_len (l := l.take n) h4
  rw [List.length_take] at n2
  have k1 := storeAll_walk s l ⟨by omega, by omega, b3⟩ (by omega) c2 (by omega)
  have k2 := storeAll_walk (allS s l).1 l m1 (by omega) c2 (by omega)
  have k3 := storeAll_walk s (l.take n) ⟨by omega, by omega, b3⟩ (by rw [List.length_take]; omega) c3 (by omega)
  have k4 := storeAll_walk (allS s (l.take n)).1 l m2 (by omega) c2 (by omega)
  rw [e1, e2] at k2
  rw [e3] at k4
  have k5 := same15_self _ m1
  have hnl : n ≤ l.length := by omega
  have htk : txnsA (l.take n) = .list (.agg 4) ((l.map txnA).take n) := by unfold txnsA; rw [List.map_take]
  rw [htk] at k3
  generalize (allS s l).1 = a at *
  generalize (allS s l).2 = x1 at *
  generalize (allS s (l.take n)).1 = c at *
  generalize (allS s (l.take n)).2 = x2 at *
  generalize (allS c l).2 = x3 at *
  refine NCall.call (awake15) rfl rfl ?_
  refine NCall.call (s1) rfl rfl ?_
  refine NCall.call (s2) rfl rfl ?_
  refine NCall.call (s3) rfl rfl ?_
  refine NCall.call (s4) rfl rfl ?_
  refine ND.no (by omega) ?_
  refine ND.no (by (simp only [List.length_map, List.length_append, List.length_replicate, List.length_cons, List.length_nil, List.length_take, List.length_drop]; omega)) ?_
  refine NCall.call (k1) rfl rfl ?_
  refine NCall.call (k2) rfl rfl ?_
  refine NP.mk (by kernel_rfl) ?_
  apply NDr.rd [0]
  · intro fH TH
    exact ⟨rfl, rfl⟩
  apply NDr.pure
  · exact ⟨rfl, rfl⟩
  apply NDr.pure
  · exact ⟨rfl, rfl⟩
  apply NDr.pure
  · refine NP.mk (by (simp only [List.length_map, List.length_append, List.length_replicate, List.length_cons, List.length_nil, List.length_take, List.length_drop]; omega)) ?_
    exact ⟨rfl, rfl⟩
  apply NDr.pure
  · refine NCall.call (k3) rfl rfl ?_
    exact ⟨rfl, rfl⟩
  apply NDr.pure
  · exact ⟨rfl, rfl⟩
  apply NDr.pure
  · exact ⟨rfl, rfl⟩
  apply NDr.pure
  · exact ⟨rfl, rfl⟩
  apply NDr.efw []
  · exact ⟨rfl, rfl⟩
  · repeat (first | exact True.intro | refine ⟨by first | exact rfl | exact True.intro, ?_⟩)
  apply NDr.efw [3]
  · exact ⟨rfl, rfl⟩
  · repeat (first | exact True.intro | refine ⟨by first | exact rfl | exact True.intro, ?_⟩)
  apply NDr.pure
  · exact ⟨rfl, rfl⟩
  refine NP.mk (by kernel_rfl) ?_
  refine NCall.call (k4) rfl rfl ?_
  refine ND.yes (by rfl) ?_
  refine NCall.call (k5) rfl rfl ?_
  refine NCall.call (k5) rfl rfl ?_
  exact NRet.mk [] rfl ⟨.refl _, rfl⟩
end Go.Bv
namespace Go.Bv
open Go Go.Proofs
theorem ty_Vec {n : Nat} {xs : List AV} (h : TyC Try.prog n 26 xs) : ∃ a : List (Int), xs = [.list (.leaf) (a.map i64)] ∧ (a.length ≤ reachBytes ∧ ∀ y ∈ a, okInt y) := by
  obtain ⟨l, rfl, hl, hx⟩ := ty_slice h Try.underlying26
  have hs : shOf Try.prog 3 = .leaf := by exact shOf_int Try.underlying3
  have hb : 1 ≤ Try.prog.bytesOf 3 := Nat.le_of_ble_eq_true (by kernel_rfl)
  rw [hs] at hx ⊢
  have : ∀ x ∈ l, ∃ a : Int, x = i64 a ∧ okInt a := by
    intro x hxl
    obtain ⟨ys, hy, rfl⟩ := hx x hxl
    obtain ⟨a, e1, g1⟩ := ty_i64 hy Try.underlying3
    exact ⟨a, by rw [e1]; rfl, g1⟩
  obtain ⟨a, rfl, ha⟩ := list_of' this
  exact ⟨a, rfl, Nat.le_trans (by simpa using Nat.le_mul_of_pos_right (a.map i64).length hb) hl, ha⟩
theorem ty_Dot {n : Nat} {xs : List AV} (h : TyC Try.prog n 46 xs) : ∃ a : Dot, xs = dotC a ∧ okDot a := by
  obtain ⟨hl, hf⟩ := ty_struct h Try.underlying46
  have c3 : Try.prog.cellsOf 3 = 1 := by kernel_rfl
  have c46 : Try.prog.cellsOf 46 = 3 := by kernel_rfl
  rw [c46] at hl
  have h0 := hf _ (List.mem_cons_self ..)
  dsimp only at h0
  rw [c3] at h0
  obtain ⟨a0, e0, g0⟩ := ty_i64 h0 Try.underlying3
  have e0 := drop_more e0 rfl
  have h1 := hf _ (List.mem_cons_of_mem _ (List.mem_cons_self ..))
  dsimp only at h1
  rw [c3] at h1
  obtain ⟨a1, e1, g1⟩ := ty_i64 h1 Try.underlying3
  have e1 := drop_more e1 rfl
  have h2 := hf _ (List.mem_cons_of_mem _ (List.mem_cons_of_mem _ (List.mem_cons_self ..)))
  dsimp only at h2
  rw [c3] at h2
  obtain ⟨a2, e2, g2⟩ := ty_i64 h2 Try.underlying3
  have e2 := drop_more e2 rfl
  rw [drop_all' hl] at e2
  rw [e2] at e1
  rw [e1] at e0
  exact ⟨⟨a0, a1, a2⟩, by rw [List.drop_zero] at e0; rw [e0]; rfl, g0, g1, g2⟩
theorem ty_LDot {n : Nat} {xs : List AV} (h : TyC Try.prog n 41 xs) : ∃ a : List (Dot), xs = [.list (.agg 3) (a.map dotA)] ∧ (a.length ≤ reachBytes ∧ ∀ y ∈ a, okDot y) := by
  obtain ⟨l, rfl, hl, hx⟩ := ty_slice h Try.underlying41
  have hs : shOf Try.prog 46 = .agg 3 := by rw [shOf_struct Try.underlying46, show Try.prog.cellsOf 46 = 3 by kernel_rfl]
  have hb : 1 ≤ Try.prog.bytesOf 46 := Nat.le_of_ble_eq_true (by kernel_rfl)
  rw [hs] at hx ⊢
  have : ∀ x ∈ l, ∃ a : Dot, x = dotA a ∧ okDot a := by
    intro x hxl
    obtain ⟨ys, hy, rfl⟩ := hx x hxl
    obtain ⟨a, e1, g1⟩ := ty_Dot hy
    exact ⟨a, by rw [e1]; rfl, g1⟩
  obtain ⟨a, rfl, ha⟩ := list_of' this
  exact ⟨a, rfl, Nat.le_trans (by simpa using Nat.le_mul_of_pos_right (a.map dotA).length hb) hl, ha⟩
theorem ty_Eff {n : Nat} {xs : List AV} (h : TyC Try.prog n 43 xs) : ∃ a : Eff, xs = effC a ∧ okEff a := by
  obtain ⟨hl, hf⟩ := ty_struct h Try.underlying43
  have c3 : Try.prog.cellsOf 3 = 1 := by kernel_rfl
  have c9 : Try.prog.cellsOf 9 = 1 := by kernel_rfl
  have c2 : Try.prog.cellsOf 2 = 1 := by kernel_rfl
  have c41 : Try.prog.cellsOf 41 = 1 := by kernel_rfl
  have c43 : Try.prog.cellsOf 43 = 7 := by kernel_rfl
  rw [c43] at hl
  have h0 := hf _ (List.mem_cons_self ..)
  dsimp only at h0
  rw [c3] at h0
  obtain ⟨a0, e0, g0⟩ := ty_i64 h0 Try.underlying3
  have e0 := drop_more e0 rfl
  have h1 := hf _ (List.mem_cons_of_mem _ (List.mem_cons_self ..))
  dsimp only at h1
  rw [c9] at h1
  obtain ⟨a1, e1, g1⟩ := ty_str h1 Try.underlying9
  have e1 := drop_more e1 rfl
  have h2 := hf _ (List.mem_cons_of_mem _ (List.mem_cons_of_mem _ (List.mem_cons_self ..)))
  dsimp only at h2
  rw [c9] at h2
  obtain ⟨a2, e2, g2⟩ := ty_str h2 Try.underlying9
  have e2 := drop_more e2 rfl
  have h3 := hf _ (List.mem_cons_of_mem _ (List.mem_cons_of_mem _ (List.mem_cons_of_mem _ (List.mem_cons_self ..))))
  dsimp only at h3
  rw [c3] at h3
  obtain ⟨a3, e3, g3⟩ := ty_i64 h3 Try.underlying3
  have e3 := drop_more e3 rfl
  have h4 := hf _ (List.mem_cons_of_mem _ (List.mem_cons_of_mem _ (List.mem_cons_of_mem _ (List.mem_cons_of_mem _ (List.mem_cons_self ..)))))
  dsimp only at h4
  rw [c9] at h4
  obtain ⟨a4, e4, g4⟩ := ty_str h4 Try.underlying9
  have e4 := drop_more e4 rfl
  have h5 := hf _ (List.mem_cons_of_mem _ (List.mem_cons_of_mem _ (List.mem_cons_of_mem _ (List.mem_cons_of_mem _ (List.mem_cons_of_mem _ (List.mem_cons_self ..))))))
  dsimp only at h5
  rw [c2] at h5
  obtain ⟨a5, e5, g5⟩ := ty_i64 h5 Try.underlying2
  have e5 := drop_more e5 rfl
  have h6 := hf _ (List.mem_cons_of_mem _ (List.mem_cons_of_mem _ (List.mem_cons_of_mem _ (List.mem_cons_of_mem _ (List.mem_cons_of_mem _ (List.mem_cons_of_mem _ (List.mem_cons_self ..)))))))
  dsimp only at h6
  rw [c41] at h6
  obtain ⟨a6, e6, g6⟩ := ty_LDot h6
  have e6 := drop_more e6 rfl
  rw [drop_all' hl] at e6
  rw [e6] at e5
  rw [e5] at e4
  rw [e4] at e3
  rw [e3] at e2
  rw [e2] at e1
  rw [e1] at e0
  exact ⟨⟨a0, a1, a2, a3, a4, a5, a6⟩, by rw [List.drop_zero] at e0; rw [e0]; rfl, g0, g1, g2, g3, g4, g5, g6⟩
theorem ty_LEff {n : Nat} {xs : List AV} (h : TyC Try.prog n 27 xs) : ∃ a : List (Eff), xs = [.list (.agg 7) (a.map effA)] ∧ (a.length ≤ reachBytes ∧ ∀ y ∈ a, okEff y) := by
  obtain ⟨l, rfl, hl, hx⟩ := ty_slice h Try.underlying27
  have hs : shOf Try.prog 43 = .agg 7 := by rw [shOf_struct Try.underlying43, show Try.prog.cellsOf 43 = 7 by kernel_rfl]
  have hb : 1 ≤ Try.prog.bytesOf 43 := Nat.le_of_ble_eq_true (by kernel_rfl)
  rw [hs] at hx ⊢
  have : ∀ x ∈ l, ∃ a : Eff, x = effA a ∧ okEff a := by
    intro x hxl
    obtain ⟨ys, hy, rfl⟩ := hx x hxl
    obtain ⟨a, e1, g1⟩ := ty_Eff hy
    exact ⟨a, by rw [e1]; rfl, g1⟩
  obtain ⟨a, rfl, ha⟩ := list_of' this
  exact ⟨a, rfl, Nat.le_trans (by simpa using Nat.le_mul_of_pos_right (a.map effA).length hb) hl, ha⟩
theorem ty_Txn {n : Nat} {xs : List AV} (h : TyC Try.prog n 29 xs) : ∃ a : Txn, xs = txnC a ∧ okTxn a := by
  obtain ⟨hl, hf⟩ := ty_struct h Try.underlying29
  have c3 : Try.prog.cellsOf 3 = 1 := by kernel_rfl
  have c26 : Try.prog.cellsOf 26 = 1 := by kernel_rfl
  have c27 : Try.prog.cellsOf 27 = 1 := by kernel_rfl
  have c29 : Try.prog.cellsOf 29 = 4 := by kernel_rfl
  rw [c29] at hl
  have h0 := hf _ (List.mem_cons_self ..)
  dsimp only at h0
  rw [c3] at h0
  obtain ⟨a0, e0, g0⟩ := ty_i64 h0 Try.underlying3
  have e0 := drop_more e0 rfl
  have h1 := hf _ (List.mem_cons_of_mem _ (List.mem_cons_self ..))
  dsimp only at h1
  rw [c3] at h1
  obtain ⟨a1, e1, g1⟩ := ty_i64 h1 Try.underlying3
  have e1 := drop_more e1 rfl
  have h2 := hf _ (List.mem_cons_of_mem _ (List.mem_cons_of_mem _ (List.mem_cons_self ..)))
  dsimp only at h2
  rw [c26] at h2
  obtain ⟨a2, e2, g2⟩ := ty_Vec h2
  have e2 := drop_more e2 rfl
  have h3 := hf _ (List.mem_cons_of_mem _ (List.mem_cons_of_mem _ (List.mem_cons_of_mem _ (List.mem_cons_self ..))))
  dsimp only at h3
  rw [c27] at h3
  obtain ⟨a3, e3, g3⟩ := ty_LEff h3
  have e3 := drop_more e3 rfl
  rw [drop_all' hl] at e3
  rw [e3] at e2
  rw [e2] at e1
  rw [e1] at e0
  exact ⟨⟨a0, a1, a2, a3⟩, by rw [List.drop_zero] at e0; rw [e0]; rfl, g0, g1, g2, g3⟩
theorem ty_LTxn {n : Nat} {xs : List AV} (h : TyC Try.prog n 22 xs) : ∃ a : List (Txn), xs = [.list (.agg 4) (a.map txnA)] ∧ (a.length ≤ reachBytes ∧ ∀ y ∈ a, okTxn y) := by
  obtain ⟨l, rfl, hl, hx⟩ := ty_slice h Try.underlying22
  have hs : shOf Try.prog 29 = .agg 4 := by rw [shOf_struct Try.underlying29, show Try.prog.cellsOf 29 = 4 by kernel_rfl]
  have hb : 1 ≤ Try.prog.bytesOf 29 := Nat.le_of_ble_eq_true (by kernel_rfl)
  rw [hs] at hx ⊢
  have : ∀ x ∈ l, ∃ a : Txn, x = txnA a ∧ okTxn a := by
    intro x hxl
    obtain ⟨ys, hy, rfl⟩ := hx x hxl
    obtain ⟨a, e1, g1⟩ := ty_Txn hy
    exact ⟨a, by rw [e1]; rfl, g1⟩
  obtain ⟨a, rfl, ha⟩ := list_of' this
  exact ⟨a, rfl, Nat.le_trans (by simpa using Nat.le_mul_of_pos_right (a.map txnA).length hb) hl, ha⟩
theorem ty_Item {n : Nat} {xs : List AV} (h : TyC Try.prog n 58 xs) : ∃ a : Item, xs = itemC a ∧ okItem a := by
  obtain ⟨hl, hf⟩ := ty_struct h Try.underlying58
  have c9 : Try.prog.cellsOf 9 = 1 := by kernel_rfl
  have c3 : Try.prog.cellsOf 3 = 1 := by kernel_rfl
  have c2 : Try.prog.cellsOf 2 = 1 := by kernel_rfl
  have c46 : Try.prog.cellsOf 46 = 3 := by kernel_rfl
  have c58 : Try.prog.cellsOf 58 = 8 := by kernel_rfl
  rw [c58] at hl
  have h0 := hf _ (List.mem_cons_self ..)
  dsimp only at h0
  rw [c9] at h0
  obtain ⟨a0, e0, g0⟩ := ty_str h0 Try.underlying9
  have e0 := drop_more e0 rfl
  have h1 := hf _ (List.mem_cons_of_mem _ (List.mem_cons_self ..))
  dsimp only at h1
  rw [c9] at h1
  obtain ⟨a1, e1, g1⟩ := ty_str h1 Try.underlying9
  have e1 := drop_more e1 rfl
  have h2 := hf _ (List.mem_cons_of_mem _ (List.mem_cons_of_mem _ (List.mem_cons_self ..)))
  dsimp only at h2
  rw [c3] at h2
  obtain ⟨a2, e2, g2⟩ := ty_i64 h2 Try.underlying3
  have e2 := drop_more e2 rfl
  have h3 := hf _ (List.mem_cons_of_mem _ (List.mem_cons_of_mem _ (List.mem_cons_of_mem _ (List.mem_cons_self ..))))
  dsimp only at h3
  rw [c9] at h3
  obtain ⟨a3, e3, g3⟩ := ty_str h3 Try.underlying9
  have e3 := drop_more e3 rfl
  have h4 := hf _ (List.mem_cons_of_mem _ (List.mem_cons_of_mem _ (List.mem_cons_of_mem _ (List.mem_cons_of_mem _ (List.mem_cons_self ..)))))
  dsimp only at h4
  rw [c2] at h4
  obtain ⟨a4, e4, g4⟩ := ty_i64 h4 Try.underlying2
  have e4 := drop_more e4 rfl
  have h5 := hf _ (List.mem_cons_of_mem _ (List.mem_cons_of_mem _ (List.mem_cons_of_mem _ (List.mem_cons_of_mem _ (List.mem_cons_of_mem _ (List.mem_cons_self ..))))))
  dsimp only at h5
  rw [c46] at h5
  obtain ⟨a5, e5, g5⟩ := ty_Dot h5
  have e5 := drop_more e5 rfl
  rw [drop_all' hl] at e5
  rw [e5] at e4
  rw [e4] at e3
  rw [e3] at e2
  rw [e2] at e1
  rw [e1] at e0
  exact ⟨⟨a0, a1, a2, a3, a4, a5⟩, by rw [List.drop_zero] at e0; rw [e0]; rfl, g0, g1, g2, g3, g4, g5⟩
theorem ty_LItem {n : Nat} {xs : List AV} (h : TyC Try.prog n 32 xs) : ∃ a : List (Item), xs = [.list (.agg 8) (a.map itemA)] ∧ (a.length ≤ reachBytes ∧ ∀ y ∈ a, okItem y) := by
  obtain ⟨l, rfl, hl, hx⟩ := ty_slice h Try.underlying32
  have hs : shOf Try.prog 58 = .agg 8 := by rw [shOf_struct Try.underlying58, show Try.prog.cellsOf 58 = 8 by kernel_rfl]
  have hb : 1 ≤ Try.prog.bytesOf 58 := Nat.le_of_ble_eq_true (by kernel_rfl)
  rw [hs] at hx ⊢
  have : ∀ x ∈ l, ∃ a : Item, x = itemA a ∧ okItem a := by
    intro x hxl
    obtain ⟨ys, hy, rfl⟩ := hx x hxl
    obtain ⟨a, e1, g1⟩ := ty_Item hy
    exact ⟨a, by rw [e1]; rfl, g1⟩
  obtain ⟨a, rfl, ha⟩ := list_of' this
  exact ⟨a, rfl, Nat.le_trans (by simpa using Nat.le_mul_of_pos_right (a.map itemA).length hb) hl, ha⟩
theorem ty_Store {n : Nat} {xs : List AV} (h : TyC Try.prog n 50 xs) : ∃ a : Store, xs = storeC a ∧ okStore a := by
  obtain ⟨hl, hf⟩ := ty_struct h Try.underlying50
  have c26 : Try.prog.cellsOf 26 = 1 := by kernel_rfl
  have c32 : Try.prog.cellsOf 32 = 1 := by kernel_rfl
  have c50 : Try.prog.cellsOf 50 = 2 := by kernel_rfl
  rw [c50] at hl
  have h0 := hf _ (List.mem_cons_self ..)
  dsimp only at h0
  rw [c26] at h0
  obtain ⟨a0, e0, g0⟩ := ty_Vec h0
  have e0 := drop_more e0 rfl
  have h1 := hf _ (List.mem_cons_of_mem _ (List.mem_cons_self ..))
  dsimp only at h1
  rw [c32] at h1
  obtain ⟨a1, e1, g1⟩ := ty_LItem h1
  have e1 := drop_more e1 rfl
  rw [drop_all' hl] at e1
  rw [e1] at e0
  exact ⟨⟨a0, a1⟩, by rw [List.drop_zero] at e0; rw [e0]; rfl, g0, g1⟩
end Go.Bv
namespace Go.Bv
set_option linter.unusedSimpArgs false
set_option linter.unusedVariables false
set_option maxHeartbeats 4000000
set_option maxRecDepth 20000
open Go Go.Proofs
theorem storeAny_walk (s : Store) (l : List Txn) (turn : Int) (hs : okStore s) (hl : l.length ≤ reachBytes) (hx : ∀ x ∈ l, okTxn x) : ACalls Try.prog Nm.law15_StoreAny [storeA s, txnsA l, i64 turn] [] (.bool true) [] := by
  refine ACalls_of tab (dr_snd tab mixed) Nm.law15_StoreAny_h rfl (by kernel_rfl) (Nat.le_of_ble_eq_true rfl) rfl ?_
  have hs' := okS hs
  have hl' := reach_lt hl
  have s1 := short15_walk s hs'.1 hs'.2 hs.2.2
  have s2 := short13_walk l (by omega) hx
  cases h1 : shortS s with
  | false =>
    rw [h1] at s1
    refine NCall.call (awake15) rfl rfl ?_
    refine NCall.call (s1) rfl rfl ?_
    exact NRet.mk [] rfl ⟨.refl _, rfl⟩
  | true =>
  rw [h1] at s1
  obtain ⟨b1, b2, b3⟩ := shortS_sm h1
  cases h2 : shortT l with
  | false =>
    rw [h2] at s2
    refine NCall.call (awake15) rfl rfl ?_
    refine NCall.call (s1) rfl rfl ?_
    refine NCall.call (s2) rfl rfl ?_
    exact NRet.mk [] rfl ⟨.refl _, rfl⟩
  | true =>
  rw [h2] at s2
  obtain ⟨c1, c2⟩ := shortT_sm h2 hx
  have s3 := twice14_walk l (by omega)
  cases h3 : twice l with
  | true =>
    rw [h3] at s3
    refine NCall.call (awake15) rfl rfl ?_
    refine NCall.call (s1) rfl rfl ?_
    refine NCall.call (s2) rfl rfl ?_
    refine NCall.call (s3) rfl rfl ?_
    exact NRet.mk [] rfl ⟨.refl _, rfl⟩
  | false =>
  rw [h3] at s3
  have s4 := sound_walk s ⟨by omega, by omega, b3⟩
  cases h4 : soundS s with
  | false =>
    rw [h4] at s4
    refine NCall.call (awake15) rfl rfl ?_
    refine NCall.call (s1) rfl rfl ?_
    refine NCall.call (s2) rfl rfl ?_
    refine NCall.call (s3) rfl rfl ?_
    refine NCall.call (s4) rfl rfl ?_
    exact NRet.mk [] rfl ⟨.refl _, rfl⟩
  | true =>
  rw [h4] at s4
  refine NCall.call (awake15) rfl rfl ?_
  refine NCall.call (s1) rfl rfl ?_
  refine NCall.call (s2) rfl rfl ?_
  refine NCall.call (s3) rfl rfl ?_
  refine NCall.call (s4) rfl rfl ?_
  refine NW.i64 (by (simp only [List.length_map, List.length_append, List.length_replicate, List.length_cons, List.length_nil, List.length_take, List.length_drop]; omega)) (by (simp only [List.length_map, List.length_append, List.length_replicate, List.length_cons, List.length_nil, List.length_take, List.length_drop]; omega)) ?_
  have hwl : IntKind.wrap .u64 ((l.map txnA).length : Int) = l.length := by rw [List.length_map, wrap_u64]; omega
  obtain ⟨R, hR⟩ : ∃ R, R = (IntKind.wrap .u64 turn).tmod (IntKind.wrap .u64 ((l.map txnA).length : Int)) := ⟨_, rfl⟩
  have hwt : 0 ≤ IntKind.wrap .u64 turn := by rw [wrap_u64]; omega
  have hR0 : 0 < l.length → 0 ≤ R ∧ R < l.length := fun h => by
    rw [hR, hwl]
    exact ⟨Int.tmod_nonneg _ hwt, Int.tmod_lt_of_pos _ (by omega)⟩
  refine NLoop.mk [(7, .agg 4)] [0, 1, 2, 3, 7, 8] (fun m vs H => ∃ (q : Nat) (i : Int), q ≤ l.length ∧ m = l.length - q ∧ i = (l.length : Int) - 1 - q ∧ H = [storeB s, .row .vrow (.agg 4) (((rot l (R.toNat)).reverse.take q).map txnA)] ∧ vs = [storeA s, txnsA l, i64 turn, .ptr 0 0 0, .own 1 0 (((rot l (R.toNat)).reverse.take q).map txnA).length, i64 i]) rfl ?_ ?_
  · exact Canon.mk [0, 1] rfl ⟨l.length, 0, _, Nat.zero_le _, rfl, rfl, by simp only [List.take_zero, List.map_nil] <;> rfl, by simp only [List.take_zero, List.map_nil, List.length_nil] <;> exact congrArg (fun k => [storeA s, txnsA l, i64 turn, AV.ptr 0 0 0, AV.own 1 0 0, k]) (congrArg i64 (by rw [List.length_map]; omega))⟩
  · rintro m vs H ⟨q, i, hq, rfl, hi, rfl, rfl⟩
    have htl : ((rot l R.toNat).reverse.take q).length = q := by rw [List.length_take, rot_len]; omega
    by_cases hql : q < l.length
    · obtain ⟨hR1, hR2⟩ := hR0 (by omega)
      have hn : ((l.map txnA).length : Int) ≠ 0 := by rw [List.length_map]; omega
      have hidx : (Int.tmod (i + R) ((l.map txnA).length : Int)).toNat = (l.length - 1 - q + R.toNat) % l.length := by
        rw [List.length_map, show i + R = ((l.length - 1 - q + R.toNat : Nat) : Int) by omega, ← Int.ofNat_tmod, Int.toNat_natCast]
      rw [hR] at hR1 hR2 hidx
      have hidl : (Int.tmod (i + (IntKind.wrap .u64 turn).tmod (IntKind.wrap .u64 ((l.map txnA).length : Int))) ((l.map txnA).length : Int)).toNat < l.length := by rw [hidx]; exact Nat.mod_lt _ (by omega)
      have hnn : 0 ≤ Int.tmod (i + (IntKind.wrap .u64 turn).tmod (IntKind.wrap .u64 ((l.map txnA).length : Int))) ((l.map txnA).length : Int) := Int.tmod_nonneg _ (by omega)
      have hg := rot_get (l := l) (r := R.toNat) (q := q) (by rw [← hR] at hR1 hR2; omega) hql
      have hx2 : l[(Int.tmod (i + (IntKind.wrap .u64 turn).tmod (IntKind.wrap .u64 ((l.map txnA).length : Int))) ((l.map txnA).length : Int)).toNat] = (rot l R.toNat).reverse[q]'(by rw [rot_len]; exact hql) := by
        rw [hg]
        congr 1
        rw [hidx, ← hR]
      refine ND.yes (by omega) ?_
      refine NW.mk _ rfl ?_
      refine NW.mk _ rfl ?_
      refine NP.mk (by omega) ?_
      refine NW.i64 (by omega) (by omega) ?_
      refine NW.i64 (by omega) (by omega) ?_
      refine NP.mk (by omega) ?_
      refine NP.mk (by omega) ?_
      refine NG.map (by omega) ?_
      refine NFz.own ?_
      refine NApp.endA rfl (by simp; omega) ?_
      refine NW.i64 (by omega) (by omega) ?_
      refine Canon.mk [0, 2] rfl ⟨l.length - (q + 1), by omega, q + 1, i - 1, by omega, rfl, ?_, ?_, ?_⟩
      rotate_left
      · rw [snocMap txnA _ (by rw [rot_len]; exact hql), ← hx2]; rfl
      · rw [snocMap txnA _ (by rw [rot_len]; exact hql), ← hx2]; rfl
      · omega
    · have hq' : q = l.length := by omega
      have hperm := rot_perm l R.toNat
      have e1 : (rot l R.toNat).reverse.take q = (rot l R.toNat).reverse := List.take_of_length_le (by rw [rot_len]; omega)
      rw [e1]
      have hol := rot_len (l := l) (r := R.toNat)
      generalize (rot l R.toNat).reverse = other at *
      obtain ⟨e1, e2⟩ := store_any h4 h3 hperm.symm
      have hso : ∀ t ∈ other, smTxn t := fun t ht => c2 t (hperm.mem_iff.1 ht)
      have k1 := storeAll_walk s l ⟨by omega, by omega, b3⟩ (by omega) c2 (by omega)
      have k2 := storeAll_walk s other ⟨by omega, by omega, b3⟩ (by omega) hso (by omega)
      have m1 := allS_sm (s := s) ⟨by omega, by omega, b3⟩ c2 (by omega)
      have k3 := same15_self _ m1
      rw [← e2] at k2
      generalize (allS s l).1 = a at *
      generalize (allS s l).2 = x at *
      generalize (allS s other).2 = y at *
      refine ND.no (by omega) ?_
      refine NCall.call (k1) rfl rfl ?_
      refine NCall.eq (by simp only [List.length_map] <;> exact rfl) ?_
      refine NCall.roA [1] ?_
      rw [(tlm _ _)]
      refine NCall.call (k2) rfl rfl ?_
      refine ND.yes (by (simp only [List.length_map, List.length_append, List.length_replicate, List.length_cons, List.length_nil, List.length_take, List.length_drop]; omega)) ?_
      refine NCall.call (k3) rfl rfl ?_
      exact NRet.mk [] rfl ⟨.refl _, rfl⟩
end Go.Bv
