/- Part of the lift: an abstract walk of the program's code, proved sound, and what it shows of this program. -/
import Derived.Test.YthkdjecnecpckaaPart10
import Derived.Test.YthkdjecnecpckaaPart7
import Derived.Test.YthkdjecnecpckaaPart5
import Derived.Test.YthkdjecnecpckaaPart3
namespace Go.Bv
open Go Go.Proofs
def keepD (d : List Item → Item → Bool) (l : List Item) : List Item := l.foldl (fun k x => if d k x then k else k ++ [x]) []
theorem keepD_snoc (d : List Item → Item → Bool) (l : List Item) (x : Item) : keepD d (l ++ [x]) = if d (keepD d l) x then keepD d l else keepD d l ++ [x] := by
  unfold keepD; rw [List.foldl_append]; rfl
theorem keepD_take (d : List Item → Item → Bool) {l : List Item} {j : Nat} (h : j < l.length) : keepD d (l.take (j + 1)) = if d (keepD d (l.take j)) l[j] then keepD d (l.take j) else keepD d (l.take j) ++ [l[j]] := by
  rw [List.take_succ_eq_append_getElem h, keepD_snoc]
theorem keepD_none (d : List Item → Item → Bool) {l : List Item} : ∀ {i : Nat}, i ≤ l.length → (∀ (j : Nat) (h : j < l.length), j < i → d (l.take j) l[j] = false) → keepD d (l.take i) = l.take i
  | 0, _, _ => by simp [keepD]
  | i + 1, hi, h => by
    have ih := keepD_none d (i := i) (by omega) (fun j hj hji => h j hj (by omega))
    have hil : i < l.length := by omega
    rw [keepD_take d hil, ih, h i hil (by omega), if_neg (by simp), List.take_succ_eq_append_getElem hil]
theorem keepD_len (d : List Item → Item → Bool) {l : List Item} : ∀ {j : Nat}, j ≤ l.length → (keepD d (l.take j)).length ≤ j
  | 0, _ => by simp [keepD]
  | j + 1, h => by
    have ih := keepD_len d (l := l) (j := j) (by omega)
    rw [keepD_take d (by omega)]
    split
    · omega
    · rw [List.length_append, List.length_cons, List.length_nil]; omega
/-- Behind the first that is let go of there is room. -/
theorem keepD_lt (d : List Item → Item → Bool) {l : List Item} {i : Nat} (hi : i < l.length) (hd : d (keepD d (l.take i)) l[i] = true) : ∀ {j : Nat}, i < j → j ≤ l.length → (keepD d (l.take j)).length < j := by
  intro j hij hj
  induction j with
  | zero => omega
  | succ j ih =>
    rw [keepD_take d (by omega)]
    rcases Nat.lt_or_ge i j with h | h
    · have := ih h (by omega)
      split
      · omega
      · rw [List.length_append, List.length_cons, List.length_nil]; omega
    · obtain rfl : i = j := by omega
      rw [hd, if_pos rfl]
      have := keepD_len d (l := l) (j := i) (by omega)
      omega
theorem keepD_filter (p : Item → Bool) : ∀ (l : List Item), keepD (fun _ x => p x) l = l.filter fun x => !p x := by
  intro l
  have : ∀ (l k : List Item), l.foldl (fun k x => if p x then k else k ++ [x]) k = k ++ l.filter fun x => !p x := by
    intro l
    induction l with
    | nil => intro k; simp
    | cons x r ih =>
      intro k
      rw [List.foldl_cons, ih, List.filter_cons]
      cases p x <;> simp
  have h := this l []
  rw [List.nil_append] at h
  exact h
def hadI (k : List Item) (x : Item) : Bool := decide (x.dot ∈ k.map Item.dot)
theorem keepD_nub : ∀ (l : List Item), keepD hadI l = nubF [] l := by
  have : ∀ (l k : List Item) (s : List Dot), (∀ d, d ∈ s ↔ d ∈ k.map Item.dot) → l.foldl (fun k x => if hadI k x then k else k ++ [x]) k = k ++ nubF s l := by
    intro l
    induction l with
    | nil => intro k s _; simp [nubF]
    | cons x r ih =>
      intro k s hs
      rw [List.foldl_cons, nubF]
      by_cases h : x.dot ∈ s
      · have h' : hadI k x = true := decide_eq_true ((hs _).1 h)
        rw [if_pos h, h', if_pos rfl]
        exact ih k s hs
      · have h' : hadI k x = false := decide_eq_false fun k' => h ((hs _).2 k')
        rw [if_neg h, h', if_neg (by simp), ih (k ++ [x]) (x.dot :: s) (fun d => by
          rw [List.map_append, List.mem_append, List.mem_cons, hs]
          simp [or_comm]), List.append_assoc]
        rfl
  intro l
  have h := this l [] [] (by simp)
  rw [List.nil_append] at h
  exact h
theorem least_ex {P : Nat → Prop} : (∃ i, P i) → ∃ i, P i ∧ ∀ j, j < i → ¬ P j := by
  rintro ⟨i, hi⟩
  induction i using Nat.strongRecOn with
  | _ i ih =>
    by_cases h : ∃ j, j < i ∧ P j
    · obtain ⟨j, hj, hp⟩ := h
      exact ih j hj hp
    · exact ⟨i, hi, fun j hj hp => h ⟨j, hj, hp⟩⟩
def zI : AV := .agg [.str [], .str [], i64 0, .str [], i64 0, i64 0, i64 0, i64 0]
end Go.Bv
namespace Go.Bv
set_option linter.unusedSimpArgs false
set_option linter.unusedVariables false
set_option maxHeartbeats 4000000
set_option maxRecDepth 20000
open Go Go.Proofs
theorem indexA_none (g : Nat) (sh : Sh) (cs : List AV) (d : List Item → Item → Bool) (l : List Item) (hl : l.length ≤ 2 ^ 38) (hg : ∀ k x, ACalls Try.prog g [itemA x, .ptr 0 0 0] [.row .box .leaf [.list sh cs]] (.bool (d k x)) [.row .box .leaf [.list sh cs]])
    (hn : ∀ (j : Nat) (h : j < l.length), d (l.take j) l[j] = false) : ACalls Try.prog Nm.slices_IndexFunc_api_Item_api_Item [.own 0 0 l.length, .fn g [.ptr 1 0 0]] [.row .vrow (.agg 8) (l.map itemA), .row .box .leaf [.list sh cs]] (i64 (-1)) [.row .vrow (.agg 8) (l.map itemA), .row .box .leaf [.list sh cs]] := by
  refine ACalls_of tab (dr_snd tab mixed) Nm.slices_IndexFunc_api_Item_api_Item_h rfl (by kernel_rfl) (Nat.le_of_ble_eq_true rfl) rfl ?_
  refine NLoop.mk [] [0, 1, 6, 7, 8] (fun m vs H => ∃ i, i ≤ l.length ∧ m = l.length - i ∧ H = [.row .vrow (.agg 8) (l.map itemA), .row .box .leaf [.list sh cs]] ∧ vs = [.own 0 0 l.length, .fn g [.ptr 1 0 0], .own 0 0 l.length, i64 l.length, i64 i]) rfl ?_ ?_
  · exact Canon.mk [] rfl ⟨l.length, 0, Nat.zero_le _, rfl, rfl, rfl⟩
  · rintro m vs H ⟨i, hi, rfl, rfl, rfl⟩
    by_cases hil : i < l.length
    · have hc := hg (l.take i) l[i]
      rw [hn i hil] at hc
      try rw [if_neg (by simp), ← List.take_succ_eq_append_getElem hil] at hc
      refine ND.yes (by omega) ?_
      refine NP.mk (by (simp only [List.length_map, List.length_append, List.length_replicate, List.length_cons, List.length_nil, List.length_take, List.length_drop]; omega)) ?_
      refine NG.map0N (by omega) ?_
      refine NCall.subSame [1] (hc) ?_
      refine NW.i64 (by omega) (by omega) ?_
      exact Canon.mk [] rfl ⟨l.length - (i + 1), by omega, i + 1, by omega, rfl, rfl, rfl⟩
    · have : i = l.length := by omega
      subst this
      try rw [List.take_length]
      refine ND.no (by omega) ?_
      exact NRet.mk [] rfl ⟨.refl _, rfl⟩
theorem indexA_some (g : Nat) (sh : Sh) (cs : List AV) (d : List Item → Item → Bool) (l : List Item) (hl : l.length ≤ 2 ^ 38) (hg : ∀ k x, ACalls Try.prog g [itemA x, .ptr 0 0 0] [.row .box .leaf [.list sh cs]] (.bool (d k x)) [.row .box .leaf [.list sh cs]])
    (i0 : Nat) (h0 : i0 < l.length) (hn : ∀ (j : Nat) (h : j < l.length), j < i0 → d (l.take j) l[j] = false) (hd : d (l.take i0) l[i0] = true) : ACalls Try.prog Nm.slices_IndexFunc_api_Item_api_Item [.own 0 0 l.length, .fn g [.ptr 1 0 0]] [.row .vrow (.agg 8) (l.map itemA), .row .box .leaf [.list sh cs]] (i64 i0) [.row .vrow (.agg 8) (l.map itemA), .row .box .leaf [.list sh cs]] := by
  refine ACalls_of tab (dr_snd tab mixed) Nm.slices_IndexFunc_api_Item_api_Item_h rfl (by kernel_rfl) (Nat.le_of_ble_eq_true rfl) rfl ?_
  refine NLoop.mk [] [0, 1, 6, 7, 8] (fun m vs H => ∃ i, i ≤ i0 ∧ m = l.length - i ∧ H = [.row .vrow (.agg 8) (l.map itemA), .row .box .leaf [.list sh cs]] ∧ vs = [.own 0 0 l.length, .fn g [.ptr 1 0 0], .own 0 0 l.length, i64 l.length, i64 i]) rfl ?_ ?_
  · exact Canon.mk [] rfl ⟨l.length, 0, Nat.zero_le _, rfl, rfl, rfl⟩
  · rintro m vs H ⟨i, hi, rfl, rfl, rfl⟩
    have hil : i < l.length := by omega
    have hc := hg (l.take i) l[i]
    by_cases hii : i = i0
    · subst hii
      rw [hd] at hc
      try rw [if_pos rfl] at hc
      refine ND.yes (by omega) ?_
      refine NP.mk (by (simp only [List.length_map, List.length_append, List.length_replicate, List.length_cons, List.length_nil, List.length_take, List.length_drop]; omega)) ?_
      refine NG.map0N (by omega) ?_
      refine NCall.subSame [1] (hc) ?_
      exact NRet.mk [] rfl ⟨.refl _, rfl⟩
    · rw [hn i hil (by omega)] at hc
      try rw [if_neg (by simp), ← List.take_succ_eq_append_getElem hil] at hc
      refine ND.yes (by omega) ?_
      refine NP.mk (by (simp only [List.length_map, List.length_append, List.length_replicate, List.length_cons, List.length_nil, List.length_take, List.length_drop]; omega)) ?_
      refine NG.map0N (by omega) ?_
      refine NCall.subSame [1] (hc) ?_
      refine NW.i64 (by omega) (by omega) ?_
      exact Canon.mk [] rfl ⟨l.length - (i + 1), by omega, i + 1, by omega, rfl, rfl, rfl⟩
theorem deleteA_walk (g : Nat) (sh : Sh) (cs : List AV) (d : List Item → Item → Bool) (l : List Item) (hl : l.length ≤ 2 ^ 38) (hg : ∀ k x, ACalls Try.prog g [itemA x, .ptr 0 0 0] [.row .box .leaf [.list sh cs]] (.bool (d k x)) [.row .box .leaf [.list sh cs]]) :
    ACalls Try.prog Nm.slices_DeleteFunc_api_Item_api_Item [.own 0 0 l.length, .fn g [.ptr 1 0 0]] [.row .vrow (.agg 8) (l.map itemA), .row .box .leaf [.list sh cs]] (.own 0 0 (keepD d l).length)
      [.row .vrow (.agg 8) ((keepD d l).map itemA ++ List.replicate (l.length - (keepD d l).length) zI), .row .box .leaf [.list sh cs]] := by
  refine ACalls_of tab (dr_snd tab mixed) Nm.slices_DeleteFunc_api_Item_api_Item_h rfl (by kernel_rfl) (Nat.le_of_ble_eq_true rfl) rfl ?_
  by_cases hex : ∃ i, ∃ h : i < l.length, d (l.take i) l[i] = true
  · obtain ⟨i0, ⟨h0, hd⟩, hmin⟩ := least_ex hex
    have hn : ∀ (j : Nat) (h : j < l.length), j < i0 → d (l.take j) l[j] = false := fun j h hj => by simpa using fun k => hmin j hj ⟨h, k⟩
    have hk0 := keepD_none d (l := l) (i := i0) (by omega) hn
    have hk1 : keepD d (l.take (i0 + 1)) = l.take i0 := by rw [keepD_take d h0, hk0, hd, if_pos rfl]
    have hlt : ∀ {j : Nat}, i0 < j → j ≤ l.length → (keepD d (l.take j)).length < j := fun {j} => keepD_lt d h0 (by rw [hk0, hd])
    have k1 := indexA_some g sh cs d l hl hg i0 h0 hn hd
    refine NCall.atA (k1) ?_
    refine ND.no (by omega) ?_
    refine NW.i64 (by omega) (by omega) ?_
    refine NLoop.mk [] [0, 1, 5, 6] (fun m vs H => ∃ j, i0 < j ∧ j ≤ l.length ∧ m = l.length - j ∧ H = [.row .vrow (.agg 8) ((keepD d (l.take j) ++ l.drop (keepD d (l.take j)).length).map itemA), .row .box .leaf [.list sh cs]] ∧
      vs = [.own 0 0 l.length, .fn g [.ptr 1 0 0], i64 (keepD d (l.take j)).length, i64 j]) rfl ?_ ?_
    · refine Canon.mk [] rfl ⟨_, i0 + 1, by omega, by omega, rfl, ?_, ?_⟩
      · rw [hk1, List.length_take, Nat.min_eq_left (by omega), List.take_append_drop]
      · rw [hk1, List.length_take, Nat.min_eq_left (by omega)]; rfl
    rintro m vs H ⟨j, hij, hj, rfl, rfl, rfl⟩
    by_cases hjl : j < l.length
    · have hlt := hlt hij hj
      have hkt := keepD_take d hjl
      obtain ⟨K, hK⟩ : ∃ K, K = keepD d (l.take j) := ⟨_, rfl⟩
      rw [← hK] at hlt hkt ⊢
      have hc := hg K l[j]
      obtain ⟨R, hR⟩ : ∃ R, R = K ++ l.drop K.length := ⟨_, rfl⟩
      have hrl : R.length = l.length := by rw [hR, List.length_append, List.length_drop]; omega
      have hjR : j < R.length := by omega
      have hget : R[j] = l[j] := by
        simp only [hR]
        rw [List.getElem_append_right (by omega), List.getElem_drop]
        congr 1; omega
      have hKR : K.length < R.length := by omega
      rw [← hR]
      cases hp : d K l[j] with
      | true =>
        rw [hp] at hc hkt
        rw [if_pos rfl] at hkt
        try rw [if_pos rfl] at hc
        rw [← hget] at hc
        refine ND.yes (by omega) ?_
        refine NP.mk (by (simp only [List.length_map, List.length_append, List.length_replicate, List.length_cons, List.length_nil, List.length_take, List.length_drop]; omega)) ?_
        refine NG.map0N (by omega) ?_
        refine NCall.subSame [1] (hc) ?_
        refine NW.i64 (by omega) (by omega) ?_
        refine Canon.mk [] rfl ⟨l.length - (j + 1), by omega, j + 1, by omega, by omega, rfl, ?_, ?_⟩
        · rw [hkt, ← hR]
        · rw [hkt]; rfl
      | false =>
        rw [hp] at hc hkt
        rw [if_neg (by simp)] at hkt
        try rw [if_neg (by simp)] at hc
        rw [← hget] at hc
        refine ND.yes (by omega) ?_
        refine NP.mk (by (simp only [List.length_map, List.length_append, List.length_replicate, List.length_cons, List.length_nil, List.length_take, List.length_drop]; omega)) ?_
        refine NG.map0N (by omega) ?_
        refine NCall.subSame [1] (hc) ?_
        refine NP.mk (by (simp only [List.length_map, List.length_append, List.length_replicate, List.length_cons, List.length_nil, List.length_take, List.length_drop]; omega)) ?_
        refine NG.map0N (by omega) ?_
        refine NW.i64 (by omega) (by omega) ?_
        refine NW.i64 (by omega) (by omega) ?_
        refine Canon.mk [] rfl ⟨l.length - (j + 1), by omega, j + 1, by omega, by omega, rfl, ?_, ?_⟩
        · rw [hkt]
          have : (R.map itemA).set (0 + K.length) (itemA R[j]) = ((K ++ [l[j]]) ++ l.drop (K ++ [l[j]]).length).map itemA := by
            rw [hget, Nat.zero_add, ← List.map_set, hR, List.set_append, if_neg (by omega), Nat.sub_self, List.drop_eq_getElem_cons (by omega), List.set_cons_zero, List.append_assoc, List.length_append]
            rfl
          rw [← this]
          try rw [← hget]
          rfl
        · rw [hkt, List.length_append]; rfl
    · have : j = l.length := by omega
      subst this
      have hlt := hlt hij hj
      rw [List.take_length] at hlt ⊢
      obtain ⟨K, hK⟩ : ∃ K, K = keepD d l := ⟨_, rfl⟩
      rw [← hK] at hlt ⊢
      have hrl : (K ++ l.drop K.length).length = l.length := by rw [List.length_append, List.length_drop]; omega
      refine ND.no (by omega) ?_
      refine NSl.mid (by omega) ?_
      refine NP.mk (by (simp only [List.length_map, List.length_append, List.length_replicate, List.length_cons, List.length_nil, List.length_take, List.length_drop]; omega)) ?_
      refine NRet.mk [] rfl ⟨.refl _, ?_⟩
      rw [Int.toNat_natCast, Nat.zero_add, List.map_append, List.take_left' (by simp), List.drop_eq_nil_of_le (by rw [List.length_append, List.length_map, List.length_map, List.length_drop]; omega), List.append_nil]
      rfl
  · have hn : ∀ (j : Nat) (h : j < l.length), d (l.take j) l[j] = false := fun j h => by simpa using fun k => hex ⟨j, h, k⟩
    have hk : keepD d l = l := by
      have := keepD_none d (l := l) (i := l.length) (Nat.le_refl _) (fun j h _ => hn j h)
      rwa [List.take_length] at this
    have k1 := indexA_none g sh cs d l hl hg hn
    rw [hk]
    refine NCall.atA (k1) ?_
    refine ND.yes (by omega) ?_
    refine NRet.mk [] rfl ⟨.refl _, ?_⟩
    rw [Nat.sub_self, List.replicate_zero, List.append_nil]
def seenE (k : List Item) : List (AV × AV) := k.map fun x => (dotA x.dot, .bool true)
theorem indexB_none (g : Nat) (d : List Item → Item → Bool) (l : List Item) (hl : l.length ≤ 2 ^ 38) (hg : ∀ k x, ACalls Try.prog g [itemA x, .ptr 0 0 0] [.row .box .leaf [.map 1], .map (seenE k)] (.bool (d k x)) [.row .box .leaf [.map 1], .map (seenE (if d k x then k else k ++ [x]))])
    (hn : ∀ (j : Nat) (h : j < l.length), d (l.take j) l[j] = false) : ACalls Try.prog Nm.slices_IndexFunc_api_Item_api_Item [.own 0 0 l.length, .fn g [.ptr 1 0 0]] [.row .vrow (.agg 8) (l.map itemA), .row .box .leaf [.map 2], .map (seenE [])] (i64 (-1)) [.row .vrow (.agg 8) (l.map itemA), .row .box .leaf [.map 2], .map (seenE l)] := by
  refine ACalls_of tab (dr_snd tab mixed) Nm.slices_IndexFunc_api_Item_api_Item_h rfl (by kernel_rfl) (Nat.le_of_ble_eq_true rfl) rfl ?_
  refine NLoop.mk [] [0, 1, 6, 7, 8] (fun m vs H => ∃ i, i ≤ l.length ∧ m = l.length - i ∧ H = [.row .vrow (.agg 8) (l.map itemA), .row .box .leaf [.map 2], .map (seenE (l.take i))] ∧ vs = [.own 0 0 l.length, .fn g [.ptr 1 0 0], .own 0 0 l.length, i64 l.length, i64 i]) rfl ?_ ?_
  · exact Canon.mk [] rfl ⟨l.length, 0, Nat.zero_le _, rfl, rfl, rfl⟩
  · rintro m vs H ⟨i, hi, rfl, rfl, rfl⟩
    by_cases hil : i < l.length
    · have hc := hg (l.take i) l[i]
      rw [hn i hil] at hc
      try rw [if_neg (by simp), ← List.take_succ_eq_append_getElem hil] at hc
      refine ND.yes (by omega) ?_
      refine NP.mk (by (simp only [List.length_map, List.length_append, List.length_replicate, List.length_cons, List.length_nil, List.length_take, List.length_drop]; omega)) ?_
      refine NG.map0N (by omega) ?_
      refine NCall.subA [1, 2] (hc) ?_
      refine NW.i64 (by omega) (by omega) ?_
      exact Canon.mk [] rfl ⟨l.length - (i + 1), by omega, i + 1, by omega, rfl, rfl, rfl⟩
    · have : i = l.length := by omega
      subst this
      try rw [List.take_length]
      refine ND.no (by omega) ?_
      exact NRet.mk [] rfl ⟨.refl _, rfl⟩
theorem indexB_some (g : Nat) (d : List Item → Item → Bool) (l : List Item) (hl : l.length ≤ 2 ^ 38) (hg : ∀ k x, ACalls Try.prog g [itemA x, .ptr 0 0 0] [.row .box .leaf [.map 1], .map (seenE k)] (.bool (d k x)) [.row .box .leaf [.map 1], .map (seenE (if d k x then k else k ++ [x]))])
    (i0 : Nat) (h0 : i0 < l.length) (hn : ∀ (j : Nat) (h : j < l.length), j < i0 → d (l.take j) l[j] = false) (hd : d (l.take i0) l[i0] = true) : ACalls Try.prog Nm.slices_IndexFunc_api_Item_api_Item [.own 0 0 l.length, .fn g [.ptr 1 0 0]] [.row .vrow (.agg 8) (l.map itemA), .row .box .leaf [.map 2], .map (seenE [])] (i64 i0) [.row .vrow (.agg 8) (l.map itemA), .row .box .leaf [.map 2], .map (seenE (l.take i0))] := by
  refine ACalls_of tab (dr_snd tab mixed) Nm.slices_IndexFunc_api_Item_api_Item_h rfl (by kernel_rfl) (Nat.le_of_ble_eq_true rfl) rfl ?_
  refine NLoop.mk [] [0, 1, 6, 7, 8] (fun m vs H => ∃ i, i ≤ i0 ∧ m = l.length - i ∧ H = [.row .vrow (.agg 8) (l.map itemA), .row .box .leaf [.map 2], .map (seenE (l.take i))] ∧ vs = [.own 0 0 l.length, .fn g [.ptr 1 0 0], .own 0 0 l.length, i64 l.length, i64 i]) rfl ?_ ?_
  · exact Canon.mk [] rfl ⟨l.length, 0, Nat.zero_le _, rfl, rfl, rfl⟩
  · rintro m vs H ⟨i, hi, rfl, rfl, rfl⟩
    have hil : i < l.length := by omega
    have hc := hg (l.take i) l[i]
    by_cases hii : i = i0
    · subst hii
      rw [hd] at hc
      try rw [if_pos rfl] at hc
      refine ND.yes (by omega) ?_
      refine NP.mk (by (simp only [List.length_map, List.length_append, List.length_replicate, List.length_cons, List.length_nil, List.length_take, List.length_drop]; omega)) ?_
      refine NG.map0N (by omega) ?_
      refine NCall.subSame [1, 2] (hc) ?_
      exact NRet.mk [] rfl ⟨.refl _, rfl⟩
    · rw [hn i hil (by omega)] at hc
      try rw [if_neg (by simp), ← List.take_succ_eq_append_getElem hil] at hc
      refine ND.yes (by omega) ?_
      refine NP.mk (by (simp only [List.length_map, List.length_append, List.length_replicate, List.length_cons, List.length_nil, List.length_take, List.length_drop]; omega)) ?_
      refine NG.map0N (by omega) ?_
      refine NCall.subA [1, 2] (hc) ?_
      refine NW.i64 (by omega) (by omega) ?_
      exact Canon.mk [] rfl ⟨l.length - (i + 1), by omega, i + 1, by omega, rfl, rfl, rfl⟩
theorem deleteB_walk (g : Nat) (d : List Item → Item → Bool) (l : List Item) (hl : l.length ≤ 2 ^ 38) (hg : ∀ k x, ACalls Try.prog g [itemA x, .ptr 0 0 0] [.row .box .leaf [.map 1], .map (seenE k)] (.bool (d k x)) [.row .box .leaf [.map 1], .map (seenE (if d k x then k else k ++ [x]))]) :
    ACalls Try.prog Nm.slices_DeleteFunc_api_Item_api_Item [.own 0 0 l.length, .fn g [.ptr 1 0 0]] [.row .vrow (.agg 8) (l.map itemA), .row .box .leaf [.map 2], .map (seenE [])] (.own 0 0 (keepD d l).length)
      [.row .vrow (.agg 8) ((keepD d l).map itemA ++ List.replicate (l.length - (keepD d l).length) zI), .row .box .leaf [.map 2], .map (seenE (keepD d l))] := by
  refine ACalls_of tab (dr_snd tab mixed) Nm.slices_DeleteFunc_api_Item_api_Item_h rfl (by kernel_rfl) (Nat.le_of_ble_eq_true rfl) rfl ?_
  by_cases hex : ∃ i, ∃ h : i < l.length, d (l.take i) l[i] = true
  · obtain ⟨i0, ⟨h0, hd⟩, hmin⟩ := least_ex hex
    have hn : ∀ (j : Nat) (h : j < l.length), j < i0 → d (l.take j) l[j] = false := fun j h hj => by simpa using fun k => hmin j hj ⟨h, k⟩
    have hk0 := keepD_none d (l := l) (i := i0) (by omega) hn
    have hk1 : keepD d (l.take (i0 + 1)) = l.take i0 := by rw [keepD_take d h0, hk0, hd, if_pos rfl]
    have hlt : ∀ {j : Nat}, i0 < j → j ≤ l.length → (keepD d (l.take j)).length < j := fun {j} => keepD_lt d h0 (by rw [hk0, hd])
    have k1 := indexB_some g d l hl hg i0 h0 hn hd
    refine NCall.atA (k1) ?_
    refine ND.no (by omega) ?_
    refine NW.i64 (by omega) (by omega) ?_
    refine NLoop.mk [] [0, 1, 5, 6] (fun m vs H => ∃ j, i0 < j ∧ j ≤ l.length ∧ m = l.length - j ∧ H = [.row .vrow (.agg 8) ((keepD d (l.take j) ++ l.drop (keepD d (l.take j)).length).map itemA), .row .box .leaf [.map 2], .map (seenE (keepD d (l.take j)))] ∧
      vs = [.own 0 0 l.length, .fn g [.ptr 1 0 0], i64 (keepD d (l.take j)).length, i64 j]) rfl ?_ ?_
    · refine Canon.mk [] rfl ⟨_, i0 + 1, by omega, by omega, rfl, ?_, ?_⟩
      · rw [hk1, List.length_take, Nat.min_eq_left (by omega), List.take_append_drop]
      · rw [hk1, List.length_take, Nat.min_eq_left (by omega)]; rfl
    rintro m vs H ⟨j, hij, hj, rfl, rfl, rfl⟩
    by_cases hjl : j < l.length
    · have hlt := hlt hij hj
      have hkt := keepD_take d hjl
      obtain ⟨K, hK⟩ : ∃ K, K = keepD d (l.take j) := ⟨_, rfl⟩
      rw [← hK] at hlt hkt ⊢
      have hc := hg K l[j]
      obtain ⟨R, hR⟩ : ∃ R, R = K ++ l.drop K.length := ⟨_, rfl⟩
      have hrl : R.length = l.length := by rw [hR, List.length_append, List.length_drop]; omega
      have hjR : j < R.length := by omega
      have hget : R[j] = l[j] := by
        simp only [hR]
        rw [List.getElem_append_right (by omega), List.getElem_drop]
        congr 1; omega
      have hKR : K.length < R.length := by omega
      rw [← hR]
      cases hp : d K l[j] with
      | true =>
        rw [hp] at hc hkt
        rw [if_pos rfl] at hkt
        try rw [if_pos rfl] at hc
        rw [← hget] at hc
        refine ND.yes (by omega) ?_
        refine NP.mk (by (simp only [List.length_map, List.length_append, List.length_replicate, List.length_cons, List.length_nil, List.length_take, List.length_drop]; omega)) ?_
        refine NG.map0N (by omega) ?_
        refine NCall.subSame [1, 2] (hc) ?_
        refine NW.i64 (by omega) (by omega) ?_
        refine Canon.mk [] rfl ⟨l.length - (j + 1), by omega, j + 1, by omega, by omega, rfl, ?_, ?_⟩
        · rw [hkt, ← hR]
        · rw [hkt]; rfl
      | false =>
        rw [hp] at hc hkt
        rw [if_neg (by simp)] at hkt
        try rw [if_neg (by simp)] at hc
        rw [← hget] at hc
        refine ND.yes (by omega) ?_
        refine NP.mk (by (simp only [List.length_map, List.length_append, List.length_replicate, List.length_cons, List.length_nil, List.length_take, List.length_drop]; omega)) ?_
        refine NG.map0N (by omega) ?_
        refine NCall.subA [1, 2] (hc) ?_
        refine NP.mk (by (simp only [List.length_map, List.length_append, List.length_replicate, List.length_cons, List.length_nil, List.length_take, List.length_drop]; omega)) ?_
        refine NG.map0N (by omega) ?_
        refine NW.i64 (by omega) (by omega) ?_
        refine NW.i64 (by omega) (by omega) ?_
        refine Canon.mk [] rfl ⟨l.length - (j + 1), by omega, j + 1, by omega, by omega, rfl, ?_, ?_⟩
        · rw [hkt]
          have : (R.map itemA).set (0 + K.length) (itemA R[j]) = ((K ++ [l[j]]) ++ l.drop (K ++ [l[j]]).length).map itemA := by
            rw [hget, Nat.zero_add, ← List.map_set, hR, List.set_append, if_neg (by omega), Nat.sub_self, List.drop_eq_getElem_cons (by omega), List.set_cons_zero, List.append_assoc, List.length_append]
            rfl
          rw [← this]
          try rw [← hget]
          rfl
        · rw [hkt, List.length_append]; rfl
    · have : j = l.length := by omega
      subst this
      have hlt := hlt hij hj
      rw [List.take_length] at hlt ⊢
      obtain ⟨K, hK⟩ : ∃ K, K = keepD d l := ⟨_, rfl⟩
      rw [← hK] at hlt ⊢
      have hrl : (K ++ l.drop K.length).length = l.length := by rw [List.length_append, List.length_drop]; omega
      refine ND.no (by omega) ?_
      refine NSl.mid (by omega) ?_
      refine NP.mk (by (simp only [List.length_map, List.length_append, List.length_replicate, List.length_cons, List.length_nil, List.length_take, List.length_drop]; omega)) ?_
      refine NRet.mk [] rfl ⟨.refl _, ?_⟩
      rw [Int.toNat_natCast, Nat.zero_add, List.map_append, List.take_left' (by simp), List.drop_eq_nil_of_le (by rw [List.length_append, List.length_map, List.length_map, List.length_drop]; omega), List.append_nil]
      rfl
  · have hn : ∀ (j : Nat) (h : j < l.length), d (l.take j) l[j] = false := fun j h => by simpa using fun k => hex ⟨j, h, k⟩
    have hk : keepD d l = l := by
      have := keepD_none d (l := l) (i := l.length) (Nat.le_refl _) (fun j h _ => hn j h)
      rwa [List.take_length] at this
    have k1 := indexB_none g d l hl hg hn
    rw [hk]
    refine NCall.atA (k1) ?_
    refine ND.yes (by omega) ?_
    refine NRet.mk [] rfl ⟨.refl _, ?_⟩
    rw [Nat.sub_self, List.replicate_zero, List.append_nil]
end Go.Bv
namespace Go.Bv
set_option linter.unusedSimpArgs false
set_option linter.unusedVariables false
set_option maxHeartbeats 4000000
set_option maxRecDepth 20000
open Go Go.Proofs
theorem keyEq_dot (a b : Dot) : keyEq [0, 0, 0] (dotA a) (dotA b) = some (decide (a = b)) := by
  rw [dot_dec]
  simp only [keyEq, dotA, dotC, allEqA, leafEqA, i64, kindBeq, Bool.and_true]
theorem seenE_get (k : List Item) (i : Nat) : (seenE k)[i]? = (k[i]?).map fun x => (dotA x.dot, AV.bool true) := by unfold seenE; rw [List.getElem?_map]
/-- Where a dot stands in the map of those seen. -/
theorem NFind.seen {k : List Item} {d : Dot} {T : Nat → AV → Prop} {E : Prop} (h1 : d ∈ k.map Item.dot → ∀ i, (seenE k)[i]? = some (dotA d, .bool true) → T i (.bool true)) (h2 : d ∉ k.map Item.dot → E) : NFind [0, 0, 0] (seenE k) (dotA d) T E := by
  by_cases h : d ∈ k.map Item.dot
  · have hex : ∃ i : Nat, ∃ x : Item, k[i]? = some x ∧ x.dot = d := by
      obtain ⟨x, hx, rfl⟩ := List.mem_map.1 h
      obtain ⟨i, hi⟩ := List.getElem?_of_mem hx
      exact ⟨i, x, hi, rfl⟩
    obtain ⟨i, ⟨x, hx, rfl⟩, hmin⟩ := least_ex hex
    have hi : (seenE k)[i]? = some (dotA x.dot, .bool true) := by rw [seenE_get, hx]; rfl
    refine .hit i (dotA x.dot) (.bool true) hi (by rw [keyEq_dot]; simp) (fun j hj k' v' hjj => ?_) (h1 h i hi)
    rw [seenE_get] at hjj
    cases hkj : k[j]? with
    | none => rw [hkj] at hjj; simp at hjj
    | some y =>
      rw [hkj] at hjj
      simp only [Option.map_some, Option.some.injEq, Prod.mk.injEq] at hjj
      rw [← hjj.1, keyEq_dot, decide_eq_false]
      exact fun e => hmin j hj ⟨y, hkj, e.symm⟩
  · refine .miss (fun j k' v' hjj => ?_) (h2 h)
    rw [seenE_get] at hjj
    cases hkj : k[j]? with
    | none => rw [hkj] at hjj; simp at hjj
    | some y =>
      rw [hkj] at hjj
      simp only [Option.map_some, Option.some.injEq, Prod.mk.injEq] at hjj
      rw [← hjj.1, keyEq_dot, decide_eq_false]
      exact fun e => h (List.mem_map.2 ⟨y, List.mem_of_getElem? hkj, e.symm⟩)
theorem set_same {α : Type} {l : List α} {i : Nat} {x : α} (h : l[i]? = some x) : l.set i x = l := by
  obtain ⟨hi, rfl⟩ := List.getElem?_eq_some_iff.1 h
  exact List.set_getElem_self hi
theorem normF_walk (k : List Item) (x : Item) : ACalls Try.prog Nm.item_Norm_1 [itemA x, .ptr 0 0 0] [.row .box .leaf [.map 1], .map (seenE k)] (.bool (hadI k x)) [.row .box .leaf [.map 1], .map (seenE (if hadI k x then k else k ++ [x]))] := by
  refine ACalls_of tab (dr_snd tab mixed) Nm.item_Norm_1_h rfl (by kernel_rfl) (Nat.le_of_ble_eq_true rfl) rfl ?_
  cases hp : hadI k x with
  | true =>
    have hm : x.dot ∈ k.map Item.dot := of_decide_eq_true hp
    skip
    refine NFind.seen (d := x.dot) (fun _ i hi => ?_) (fun h => absurd hm h)
    skip
    refine NFind.seen (d := x.dot) (fun _ i hi => ?_) (fun h => absurd hm h)
    have e1 : (seenE k).set i (dotA x.dot, .bool true) = seenE k := set_same hi
    skip
    exact NRet.mk [] rfl ⟨.refl _, by rw [if_pos rfl]; exact congrArg (fun m => [Blk.row .box .leaf [.map 1], .map m]) e1.symm⟩
  | false =>
    have hm : x.dot ∉ k.map Item.dot := of_decide_eq_false hp
    skip
    refine NFind.seen (d := x.dot) (fun h => absurd h hm) (fun _ => ?_)
    skip
    refine NFind.seen (d := x.dot) (fun h => absurd h hm) (fun _ => ?_)
    skip
    refine NRet.mk [] rfl ⟨.refl _, ?_⟩
    rw [if_neg (by simp)]
    unfold seenE
    rw [List.map_append]
    rfl
theorem without_own (l : List Item) (D : List Dot) (hl : l.length ≤ 2 ^ 38) (hD : D.length ≤ 2 ^ 40) : ACalls Try.prog Nm.item_Without [itemsA l, dotsA D] [] (.own 0 0 (without l D).length) [.row .vrow (.agg 8) ((without l D).map itemA ++ List.replicate (l.length - (without l D).length) zI)] := by
  refine ACalls_of tab (dr_snd tab mixed) Nm.item_Without_h rfl (by kernel_rfl) (Nat.le_of_ble_eq_true rfl) rfl ?_
  have k1 := cloneI_walk l hl
  have k2 := deleteA_walk Nm.item_Without_1 (.agg 3) (D.map dotA) (fun _ x => decide (x.dot ∈ D)) l hl (fun _ x => withoutF_walk D x hD)
  have e : keepD (fun _ x => decide (x.dot ∈ D)) l = without l D := by
    rw [keepD_filter]
    unfold without
    congr 1; funext x
    by_cases h : x.dot ∈ D <;> simp [h]
  rw [e] at k2
  refine NCall.atA (ACalls.frame (k1) rfl _) ?_
  refine NCall.subA [1, 0] (k2) ?_
  exact NRet.mk [1] rfl ⟨.refl _, rfl⟩
end Go.Bv
namespace Go.Bv
set_option linter.unusedSimpArgs false
set_option linter.unusedVariables false
set_option maxHeartbeats 4000000
set_option maxRecDepth 20000
open Go Go.Proofs
theorem sortFunc_walk (l : List Item) (hl : l.length ≤ 60000) : ACalls Try.prog Nm.slices_SortFunc_api_Item_api_Item [.own 0 0 l.length, .fn Nm.item_compare []] [.row .vrow (.agg 8) (l.map itemA)] (.tup []) [.row .vrow (.agg 8) ((isort l).map itemA)] := by
  refine ACalls_of tab (dr_snd tab mixed) Nm.slices_SortFunc_api_Item_api_Item_h rfl (by kernel_rfl) (Nat.le_of_ble_eq_true rfl) rfl ?_
  have h1 := len_walk l.length (by omega)
  have hb := (Go.Sort.bitsLen_le_iff l.length 16).2 (by omega)
  have h2 := pdq_walk l.length l 0 l.length (Go.Sort.bitsLen l.length) (by omega) (by omega) (Nat.le_refl _) hl (by omega) (Or.inl rfl)
  rw [pdq_isort] at h2
  have e : IntKind.wrap .u64 (l.length : Int) = (l.length : Int) := by rw [wrap_u64]; omega
  refine NW.mk _ rfl ?_
  rw [(e)]
  refine NCall.call (h1) rfl rfl ?_
  refine NCall.atA (h2) ?_
  exact NRet.mk [] rfl ⟨.refl _, rfl⟩
theorem isort_len (l : List Item) : (isort l).length = l.length := (isort_perm l).length_eq
theorem norm_len (l : List Item) : (norm l).length ≤ l.length := by
  unfold norm
  rw [← isort_len l]
  exact (nubF_sub _ _).length_le
theorem norm_own (l : List Item) (hl : l.length ≤ 60000) : ACalls Try.prog Nm.item_Norm [itemsA l] [] (.own 0 0 (norm l).length) [.row .vrow (.agg 8) ((norm l).map itemA ++ List.replicate (l.length - (norm l).length) zI)] := by
  refine ACalls_of tab (dr_snd tab mixed) Nm.item_Norm_h rfl (by kernel_rfl) (Nat.le_of_ble_eq_true rfl) rfl ?_
  have k1 := cloneI_walk l (by omega)
  have k2 := sortFunc_walk l hl
  have k3 := deleteB_walk Nm.item_Norm_1 hadI (isort l) (by rw [isort_len]; omega) (fun k x => normF_walk k x)
  rw [keepD_nub, isort_len] at k3
  rw [show nubF [] (isort l) = norm l from rfl] at k3
  refine NCall.atA (ACalls.frame (k1) rfl _) ?_
  refine NCall.atA (k2) ?_
  refine NCall.subA [0, 2, 1] (k3) ?_
  exact NRet.mk [0] rfl ⟨.refl _, rfl⟩
theorem without_len (l : List Item) (D : List Dot) : (without l D).length ≤ l.length := List.length_filter_le _ _
theorem doE_len (n s : Int) (l : List Item) (e : Eff) : (doE n s l e).length ≤ l.length + 1 := by
  have h1 := norm_len (rawE n s l e)
  have h2 := without_len l e.drops
  unfold doE
  refine Nat.le_trans h1 ?_
  unfold rawE madeL
  rw [List.length_append]
  split <;> simp only [List.length_nil, List.length_cons] <;> omega
theorem do_walk (l : List Item) (n s : Int) (es : List Eff) (hl : l.length ≤ 50000) (he : es.length ≤ 5000) (hx : ∀ e ∈ es, smEff e) : ACalls Try.prog Nm.eff_Do [itemsA l, i64 n, i64 s, effsA es] [] (itemsA (doL n s l es)) [] := by
  refine ACalls_of tab (dr_snd tab mixed) Nm.eff_Do_h rfl (by kernel_rfl) (Nat.le_of_ble_eq_true rfl) rfl ?_
  have k1 := cloneI_walk l (by omega)
  refine NCall.atA (ACalls.frame (k1) rfl _) ?_
  refine NLoop.mk [] [1, 2, 9, 14, 15, 16] (fun m vs H => ∃ (i : Nat) (junk : List AV), i ≤ es.length ∧ m = es.length - i ∧ (doL n s l (es.take i)).length ≤ l.length + i ∧ H = [.row .vrow (.agg 8) ((doL n s l (es.take i)).map itemA ++ junk)] ∧
    vs = [i64 n, i64 s, .own 0 0 (doL n s l (es.take i)).length, effsA es, i64 es.length, i64 i]) rfl ?_ ?_
  · exact Canon.mk [0] rfl ⟨es.length, 0, [], Nat.zero_le _, rfl, Nat.le_refl _, by rw [List.append_nil]; rfl, by rw [List.length_map]; rfl⟩
  rintro m vs H ⟨i, junk, hi, rfl, hlen, rfl, rfl⟩
  by_cases hil : i < es.length
  · have hs := hx _ (List.getElem_mem hil)
    have hstep : doL n s l (es.take (i + 1)) = doE n s (doL n s l (es.take i)) es[i] := by
      unfold doL
      rw [List.take_succ_eq_append_getElem hil, List.foldl_append]; rfl
    have hlen2 := doE_len n s (doL n s l (es.take i)) es[i]
    rw [← hstep] at hlen2
    have hw := without_len (doL n s l (es.take i)) es[i].drops
    have k2 := without_own (doL n s l (es.take i)) es[i].drops (by omega) hs.2.2.2
    have k3 := made_walk n s es[i]
    have k4 := norm_own (rawE n s (doL n s l (es.take i)) es[i]) (by
      unfold rawE madeL
      rw [List.length_append]
      split <;> simp only [List.length_nil, List.length_cons] <;> omega)
    rw [show norm (rawE n s (doL n s l (es.take i)) es[i]) = doL n s l (es.take (i + 1)) from hstep.symm] at k4
    have htk : ∀ (w : List Item) (X : List AV), List.take w.length (w.map itemA ++ X) = w.map itemA := fun w X => List.take_left' (by simp)
    obtain ⟨cur, hcur⟩ : ∃ c, c = doL n s l (es.take i) := ⟨_, rfl⟩
    rw [← hcur] at k2 k4 hw hlen ⊢
    unfold rawE madeL at k4
    obtain ⟨nxt, hnxt⟩ : ∃ c, c = doL n s l (es.take (i + 1)) := ⟨_, rfl⟩
    rw [← hnxt] at k4 hlen2
    rw [← hcur] at hlen2
    generalize without cur es[i].drops = w at *
    by_cases hk : es[i].kind = 0
    · rw [if_pos hk, List.append_nil] at k4
      refine ND.yes (by omega) ?_
      refine NP.mk (by omega) ?_
      refine NG.mapN (by omega) ?_
      refine NCall.roA [0] ?_
      rw [(htk cur junk)]
      refine NCall.atA (ACalls.frame (k2) rfl _) ?_
      refine ND.yes (by omega) ?_
      refine NCall.roA [2] ?_
      rw [(htk w _)]
      refine NCall.atA (ACalls.frame (k4) rfl _) ?_
      refine NW.i64 (by omega) (by omega) ?_
      exact Canon.mk [3] rfl ⟨es.length - (i + 1), by omega, i + 1, List.replicate (w.length - nxt.length) zI, by omega, rfl, by rw [← hnxt]; omega, by subst hnxt; rfl, by subst hnxt; rfl⟩
    · rw [if_neg hk] at k4
      obtain ⟨x, hxe⟩ : ∃ x, x = made n s es[i] := ⟨_, rfl⟩
      rw [← hxe] at k4 k3
      rw [show itemsA (w ++ [x]) = .list (.agg 8) (w.map itemA ++ [itemA x]) by simp [itemsA]] at k4
      by_cases hwe : cur.length - w.length = 0
      · rw [hwe, List.replicate_zero, List.append_nil] at k2
        refine ND.yes (by omega) ?_
        refine NP.mk (by omega) ?_
        refine NG.mapN (by omega) ?_
        refine NCall.roA [0] ?_
        rw [(htk cur junk)]
        refine NCall.atA (ACalls.frame (k2) rfl _) ?_
        refine ND.no (by omega) ?_
        refine NCall.call (k3) rfl rfl ?_
        refine NFz.own ?_
        refine NApp.endA (by simp) (by simp; omega) ?_
        refine NCall.roA [3] ?_
        rw [(tl0 _)]
        refine NCall.atA (ACalls.frame (k4) rfl _) ?_
        refine NW.i64 (by omega) (by omega) ?_
        exact Canon.mk [4] rfl ⟨es.length - (i + 1), by omega, i + 1, List.replicate ((w ++ [x]).length - nxt.length) zI, by omega, rfl, by rw [← hnxt]; omega, by subst hnxt; rfl, by subst hnxt; rfl⟩
      · obtain ⟨c, hc⟩ : ∃ c, cur.length - w.length = c + 1 := ⟨cur.length - w.length - 1, by omega⟩
        rw [hc] at k2
        have htk2 : List.take (w.length + 1) (w.map itemA ++ itemA x :: List.replicate c zI) = w.map itemA ++ [itemA x] := by
          rw [show w.map itemA ++ itemA x :: List.replicate c zI = (w.map itemA ++ [itemA x]) ++ List.replicate c zI by simp]
          exact List.take_left' (by simp)
        refine ND.yes (by omega) ?_
        refine NP.mk (by omega) ?_
        refine NG.mapN (by omega) ?_
        refine NCall.roA [0] ?_
        rw [(htk cur junk)]
        refine NCall.atA (ACalls.frame (k2) rfl _) ?_
        refine ND.no (by omega) ?_
        refine NCall.call (k3) rfl rfl ?_
        refine NFz.own ?_
        refine NApp.inA (es' := w.map itemA ++ itemA x :: List.replicate c zI) (by simp) ?_ rfl ?_ rfl
        rotate_left
        · have hd : List.drop (0 + w.length + 1) (w.map itemA ++ List.replicate (c + 1) zI) = List.replicate c zI := by
            rw [List.drop_append, List.drop_eq_nil_of_le (by simp), List.nil_append, List.length_map, show 0 + w.length + 1 - w.length = 1 by omega]; rfl
          show List.take (0 + w.length) (w.map itemA ++ List.replicate (c + 1) zI) ++ ([itemA x] ++ List.drop (0 + w.length + 1) (w.map itemA ++ List.replicate (c + 1) zI)) = _
          rw [hd, Nat.zero_add, List.take_left' (by simp)]; rfl
        refine NCall.roA [2] ?_
        rw [(htk2)]
        refine NCall.atA (ACalls.frame (k4) rfl _) ?_
        refine NW.i64 (by omega) (by omega) ?_
        exact Canon.mk [3] rfl ⟨es.length - (i + 1), by omega, i + 1, List.replicate ((w ++ [x]).length - nxt.length) zI, by omega, rfl, by rw [← hnxt]; omega, by subst hnxt; rfl, by subst hnxt; rfl⟩
  · have : i = es.length := by omega
    subst this
    rw [List.take_length]
    refine ND.no (by omega) ?_
    exact NRet.mk [] rfl (NFrz.mk ((doL n s l es).map itemA) (by simp) (by rw [List.drop_zero, List.take_left' (by simp)]) ⟨.refl _, rfl⟩)
end Go.Bv
namespace Go.Bv
set_option linter.unusedSimpArgs false
set_option linter.unusedVariables false
set_option maxHeartbeats 4000000
set_option maxRecDepth 20000
open Go Go.Proofs
theorem begins8_walk (s p : List UInt8) (hs : s.length ≤ 2 ^ 47) : ACalls Try.prog Nm.ref08_Begins [.str s, .str p] [] (.bool (begins s p)) [] := by
  refine ACalls_of tab (dr_snd tab mixed) Nm.ref08_Begins_h rfl (by kernel_rfl) (Nat.le_of_ble_eq_true rfl) rfl ?_
  unfold begins
  by_cases h1 : p.length ≤ s.length
  · refine ND.no (by omega) ?_
    refine NLoop.mk [] [0, 1, 5] (fun m vs H => ∃ i, i ≤ p.length ∧ m = p.length - i ∧ s.take i = p.take i ∧ H = [] ∧ vs = [.str s, .str p, i64 i]) rfl ?_ ?_
    · exact Canon.mk [] rfl ⟨p.length, 0, Nat.zero_le _, rfl, rfl, rfl, rfl⟩
    · rintro m vs H ⟨i, hi, rfl, ht, rfl, rfl⟩
      by_cases hil : i < p.length
      · have his : i < s.length := by omega
        by_cases he : s[i] = p[i]
        · refine ND.yes (by omega) ?_
          refine NP.mk (by kernel_rfl) ?_
          apply NDr.pure
          · exact ⟨rfl, rfl⟩
          apply NDr.pure
          · exact ⟨rfl, rfl⟩
          apply NDr.pure
          · refine NP.mk (by omega) ?_
            exact ⟨rfl, rfl⟩
          apply NDr.pure
          · exact ⟨rfl, rfl⟩
          apply NDr.pure
          · exact ⟨rfl, rfl⟩
          apply NDr.pure
          · refine NP.mk (by omega) ?_
            exact ⟨rfl, rfl⟩
          apply NDr.pure
          · exact NB.det'
          refine NP.mk (by kernel_rfl) ?_
          refine NB.no (by simp [*]) ?_
          refine NW.i64 (by omega) (by omega) ?_
          exact Canon.mk [] rfl ⟨p.length - (i + 1), by omega, i + 1, by omega, rfl, take_eq_next ht his hil he, rfl, rfl⟩
        · rw [decide_eq_false fun h => he (by
            have := congrArg (fun l => l[i]?) h
            simp only [List.getElem?_take, hil, if_true, List.getElem?_eq_getElem his, List.getElem?_eq_getElem hil] at this
            exact Option.some.inj this)]
          have he' : ¬ ((s[i].toNat : Int) = p[i].toNat) := fun h => he (UInt8.toNat_inj.1 (by omega))
          refine ND.yes (by omega) ?_
          refine NP.mk (by kernel_rfl) ?_
          apply NDr.pure
          · exact ⟨rfl, rfl⟩
          apply NDr.pure
          · exact ⟨rfl, rfl⟩
          apply NDr.pure
          · refine NP.mk (by omega) ?_
            exact ⟨rfl, rfl⟩
          apply NDr.pure
          · exact ⟨rfl, rfl⟩
          apply NDr.pure
          · exact ⟨rfl, rfl⟩
          apply NDr.pure
          · refine NP.mk (by omega) ?_
            exact ⟨rfl, rfl⟩
          apply NDr.pure
          · exact NB.det'
          refine NP.mk (by kernel_rfl) ?_
          refine NB.yes (by simp [*]) ?_
          exact NRet.mk [] rfl ⟨.refl _, rfl⟩
      · have : i = p.length := by omega
        subst this
        rw [decide_eq_true (by rw [ht, List.take_length])]
        refine ND.no (by omega) ?_
        exact NRet.mk [] rfl ⟨.refl _, rfl⟩
  · rw [decide_eq_false (fun h => h1 (by rw [← h, List.length_take]; omega))]
    refine ND.yes (by omega) ?_
    exact NRet.mk [] rfl ⟨.refl _, rfl⟩
theorem covers8_walk (z : List (List UInt8)) (k : List UInt8) (hz : z.length ≤ 2 ^ 40) (hk : k.length ≤ 2 ^ 47) : ACalls Try.prog Nm.ref08_Covers [strsA z, .str k] [] (.bool (z.any (begins k))) [] := by
  refine ACalls_of tab (dr_snd tab mixed) Nm.ref08_Covers_h rfl (by kernel_rfl) (Nat.le_of_ble_eq_true rfl) rfl ?_
  refine NLoop.mk [] [0, 1, 5] (fun m vs H => ∃ i, i ≤ z.length ∧ m = z.length - i ∧ (∀ x ∈ z.take i, begins k x = false) ∧ H = [] ∧ vs = [strsA z, .str k, i64 i]) rfl ?_ ?_
  · exact Canon.mk [] rfl ⟨z.length, 0, Nat.zero_le _, rfl, by simp, rfl, rfl⟩
  · rintro m vs H ⟨i, hi, rfl, ht, rfl, rfl⟩
    by_cases hil : i < z.length
    · have hb := begins8_walk k z[i] hk
      cases hp : begins k z[i] with
      | true =>
        rw [hp] at hb
        rw [List.any_eq_true.2 ⟨_, List.getElem_mem hil, hp⟩]
        refine ND.yes (by (simp only [List.length_map, List.length_append, List.length_replicate, List.length_cons, List.length_nil, List.length_take, List.length_drop]; omega)) ?_
        refine NP.mk (by omega) ?_
        refine NG.mapN (by omega) ?_
        refine NCall.call (hb) rfl rfl ?_
        exact NRet.mk [] rfl ⟨.refl _, rfl⟩
      | false =>
        rw [hp] at hb
        refine ND.yes (by (simp only [List.length_map, List.length_append, List.length_replicate, List.length_cons, List.length_nil, List.length_take, List.length_drop]; omega)) ?_
        refine NP.mk (by omega) ?_
        refine NG.mapN (by omega) ?_
        refine NCall.call (hb) rfl rfl ?_
        refine NW.i64 (by omega) (by omega) ?_
        exact Canon.mk [] rfl ⟨z.length - (i + 1), by omega, i + 1, by omega, rfl, (find_step hil ht).2 hp, rfl, rfl⟩
    · have : i = z.length := by omega
      subst this
      rw [List.take_length] at ht
      rw [List.any_eq_false.2 fun x hx => by rw [ht x hx]; simp]
      refine ND.no (by (simp only [List.length_map, List.length_append, List.length_replicate, List.length_cons, List.length_nil, List.length_take, List.length_drop]; omega)) ?_
      exact NRet.mk [] rfl ⟨.refl _, rfl⟩
theorem short8_walk (l : List (List UInt8)) (hl : l.length ≤ 2 ^ 47) (hx : ∀ e ∈ l, e.length ≤ reachBytes) : ACalls Try.prog Nm.ref08_Short [strsA l] [] (.bool (decide (l.length ≤ 60) && l.all fun e => decide (e.length ≤ 200))) [] := by
  refine ACalls_of tab (dr_snd tab mixed) Nm.ref08_Short_h rfl (by kernel_rfl) (Nat.le_of_ble_eq_true rfl) rfl ?_
  by_cases h : l.length ≤ 60
  · rw [decide_eq_true h, Bool.true_and]
    refine ND.no (by (simp only [List.length_map, List.length_append, List.length_replicate, List.length_cons, List.length_nil, List.length_take, List.length_drop]; omega)) ?_
    refine NLoop.mk [] [0, 3] (fun m vs H => ∃ i, i ≤ l.length ∧ m = l.length - i ∧ (∀ x ∈ l.take i, decide (x.length ≤ 200) = true) ∧ H = [] ∧ vs = [strsA l, i64 i]) rfl ?_ ?_
    · exact Canon.mk [] rfl ⟨l.length, 0, Nat.zero_le _, rfl, by simp, rfl, rfl⟩
    · rintro m vs H ⟨i, hi, rfl, ht, rfl, rfl⟩
      by_cases hil : i < l.length
      · obtain ⟨f1, f2⟩ := all_step (p := fun x : List UInt8 => decide (x.length ≤ 200)) hil ht
        have hr := reach_lt (hx _ (List.getElem_mem hil))
        by_cases hp : l[i].length ≤ 200
        · refine ND.yes (by (simp only [List.length_map, List.length_append, List.length_replicate, List.length_cons, List.length_nil, List.length_take, List.length_drop]; omega)) ?_
          refine NP.mk (by omega) ?_
          refine NG.mapN (by omega) ?_
          refine ND.no (by omega) ?_
          refine NW.i64 (by omega) (by omega) ?_
          exact Canon.mk [] rfl ⟨l.length - (i + 1), by omega, i + 1, by omega, rfl, f2 (decide_eq_true hp), rfl, rfl⟩
        · rw [f1 (decide_eq_false hp)]
          refine ND.yes (by (simp only [List.length_map, List.length_append, List.length_replicate, List.length_cons, List.length_nil, List.length_take, List.length_drop]; omega)) ?_
          refine NP.mk (by omega) ?_
          refine NG.mapN (by omega) ?_
          refine ND.yes (by omega) ?_
          exact NRet.mk [] rfl ⟨.refl _, rfl⟩
      · have : i = l.length := by omega
        subst this
        rw [all_end ht]
        refine ND.no (by (simp only [List.length_map, List.length_append, List.length_replicate, List.length_cons, List.length_nil, List.length_take, List.length_drop]; omega)) ?_
        exact NRet.mk [] rfl ⟨.refl _, rfl⟩
  · rw [decide_eq_false h, Bool.false_and]
    refine ND.yes (by (simp only [List.length_map, List.length_append, List.length_replicate, List.length_cons, List.length_nil, List.length_take, List.length_drop]; omega)) ?_
    exact NRet.mk [] rfl ⟨.refl _, rfl⟩
end Go.Bv
namespace Go.Bv
set_option linter.unusedSimpArgs false
set_option linter.unusedVariables false
set_option maxHeartbeats 4000000
set_option maxRecDepth 20000
open Go Go.Proofs
theorem is9_walk (D : List Dot) (d : Dot) (hD : D.length ≤ 2 ^ 40) : ACalls Try.prog Nm.ref09_Is [dotsA D, dotA d] [] (.bool (decide (d ∈ D))) [] := by
  refine ACalls_of tab (dr_snd tab mixed) Nm.ref09_Is_h rfl (by kernel_rfl) (Nat.le_of_ble_eq_true rfl) rfl ?_
  skip
  refine NLoop.mk [] [0, 3, 5] (fun m vs H => ∃ i, i ≤ D.length ∧ m = D.length - i ∧ (∀ x ∈ D.take i, decide (d = x) = false) ∧ H = [.row .box (.agg 3) [dotA d]] ∧ vs = [dotsA D, .ptr 0 0 0, i64 i]) rfl ?_ ?_
  · exact Canon.mk [0] rfl ⟨D.length, 0, Nat.zero_le _, rfl, by simp, rfl, rfl⟩
  · rintro m vs H ⟨i, hi, rfl, ht, rfl, rfl⟩
    by_cases hil : i < D.length
    · obtain ⟨f1, f2⟩ := find_step hil ht
      by_cases hp : d = D[i]
      · have e1 : d.node = D[i].node := by rw [← hp]
        have e2 : d.seq = D[i].seq := by rw [← hp]
        have e3 : d.at' = D[i].at' := by rw [← hp]
        rw [decide_eq_true (show d ∈ D from by rw [hp]; exact List.getElem_mem hil)]
        refine ND.yes (by (simp only [List.length_map, List.length_append, List.length_replicate, List.length_cons, List.length_nil, List.length_take, List.length_drop]; omega)) ?_
        refine NP.mk (by kernel_rfl) ?_
        apply NDr.pure
        · exact ⟨rfl, rfl⟩
        apply NDr.pure
        · exact ⟨rfl, rfl⟩
        apply NDr.pure
        · refine NP.mk (by omega) ?_
          refine NG.mapN (by omega) ?_
          exact ⟨rfl, rfl⟩
        apply NDr.pure
        · exact ⟨rfl, rfl⟩
        apply NDr.rd [0]
        · intro fH TH
          exact ⟨rfl, rfl⟩
        apply NDr.pure
        · refine ND.yes (by simp [*]) ?_
          exact ⟨rfl, rfl⟩
        refine NP.mk (by kernel_rfl) ?_
        exact NRet.mk [] rfl ⟨.refl _, rfl⟩
      · have hne : ¬ (d.node = D[i].node ∧ d.seq = D[i].seq ∧ d.at' = D[i].at') := fun h => hp (Dot.ext h.1 h.2.1 h.2.2)
        refine ND.yes (by (simp only [List.length_map, List.length_append, List.length_replicate, List.length_cons, List.length_nil, List.length_take, List.length_drop]; omega)) ?_
        refine NP.mk (by kernel_rfl) ?_
        apply NDr.pure
        · exact ⟨rfl, rfl⟩
        apply NDr.pure
        · exact ⟨rfl, rfl⟩
        apply NDr.pure
        · refine NP.mk (by omega) ?_
          refine NG.mapN (by omega) ?_
          exact ⟨rfl, rfl⟩
        apply NDr.pure
        · exact ⟨rfl, rfl⟩
        apply NDr.rd [0]
        · intro fH TH
          exact ⟨rfl, rfl⟩
        apply NDr.pure
        · exact NB.det
        refine NP.mk (by kernel_rfl) ?_
        refine NB.mk (fun hk3 => ?_) (fun hk3 => ?_)
        · refine NRet.boolE (b := true) ?_ (NRet.mk [] rfl ⟨.refl _, rfl⟩)
          grind
        refine NW.i64 (by omega) (by omega) ?_
        exact Canon.mk [0] rfl ⟨D.length - (i + 1), by omega, i + 1, by omega, rfl, f2 (decide_eq_false hp), rfl, rfl⟩
    · have : i = D.length := by omega
      subst this
      rw [List.take_length] at ht
      rw [decide_eq_false fun h => by have := ht d h; simp at this]
      refine ND.no (by (simp only [List.length_map, List.length_append, List.length_replicate, List.length_cons, List.length_nil, List.length_take, List.length_drop]; omega)) ?_
      exact NRet.mk [] rfl ⟨.refl _, rfl⟩
theorem same9_walk (a b : List Item) (ha : a.length ≤ 2 ^ 38) : ACalls Try.prog Nm.ref09_Same [itemsA a, itemsA b] [] (.bool (decide (a = b))) [] := by
  refine ACalls_of tab (dr_snd tab mixed) Nm.ref09_Same_h rfl (by kernel_rfl) (Nat.le_of_ble_eq_true rfl) rfl ?_
  by_cases hl : a.length = b.length
  · refine ND.yes (by (simp only [List.length_map, List.length_append, List.length_replicate, List.length_cons, List.length_nil, List.length_take, List.length_drop]; omega)) ?_
    refine NLoop.mk [] [0, 1, 5] (fun m vs H => ∃ i, i ≤ a.length ∧ m = a.length - i ∧ a.take i = b.take i ∧ H = [] ∧ vs = [itemsA a, itemsA b, i64 i]) rfl ?_ ?_
    · exact Canon.mk [] rfl ⟨a.length, 0, Nat.zero_le _, rfl, rfl, rfl, rfl⟩
    · rintro m vs H ⟨i, hi, rfl, ht, rfl, rfl⟩
      by_cases hil : i < a.length
      · have hib : i < b.length := by omega
        refine ND.yes (by (simp only [List.length_map, List.length_append, List.length_replicate, List.length_cons, List.length_nil, List.length_take, List.length_drop]; omega)) ?_
        refine NP.mk (by kernel_rfl) ?_
        apply NDr.pure
        · exact ⟨rfl, rfl⟩
        apply NDr.pure
        · exact ⟨rfl, rfl⟩
        apply NDr.pure
        · refine NP.mk (by omega) ?_
          refine NG.mapN (by omega) ?_
          exact ⟨rfl, rfl⟩
        apply NDr.pure
        · exact ⟨rfl, rfl⟩
        apply NDr.pure
        · exact ⟨rfl, rfl⟩
        apply NDr.pure
        · exact ⟨rfl, rfl⟩
        apply NDr.pure
        · refine NP.mk (by omega) ?_
          refine NG.mapN (by omega) ?_
          exact ⟨rfl, rfl⟩
        apply NDr.pure
        · exact ⟨rfl, rfl⟩
        apply NDr.pure
        · exact NB.det'
        refine NP.mk (by kernel_rfl) ?_
        refine NB.mk (fun hk3 => ?_) (fun hk3 => ?_)
        · refine NRet.boolE (b := false) ?_ (NRet.mk [] rfl ⟨.refl _, rfl⟩)
          grind
        refine NW.i64 (by omega) (by omega) ?_
        exact Canon.mk [] rfl ⟨a.length - (i + 1), by omega, i + 1, by omega, rfl, take_eq_next ht hil hib (by grind [Item.ext_iff, Dot.ext_iff]), rfl, rfl⟩
      · have : i = a.length := by omega
        subst this
        rw [decide_eq_true (take_eq_end hl ht)]
        refine ND.no (by (simp only [List.length_map, List.length_append, List.length_replicate, List.length_cons, List.length_nil, List.length_take, List.length_drop]; omega)) ?_
        exact NRet.mk [] rfl ⟨.refl _, rfl⟩
  · rw [decide_eq_false fun e => hl (by rw [e])]
    refine ND.no (by (simp only [List.length_map, List.length_append, List.length_replicate, List.length_cons, List.length_nil, List.length_take, List.length_drop]; omega)) ?_
    exact NRet.mk [] rfl ⟨.refl _, rfl⟩
def shortI (x : Item) : Bool := decide (x.key.length ≤ 300 ∧ x.field.length ≤ 300 ∧ x.elem.length ≤ 300)
def shortIs (l : List Item) : Bool := decide (l.length ≤ 60) && l.all shortI
theorem short9_walk (l : List Item) (hl : l.length ≤ 2 ^ 47) (hx : ∀ e ∈ l, okItem e) : ACalls Try.prog Nm.ref09_Short [itemsA l] [] (.bool (shortIs l)) [] := by
  refine ACalls_of tab (dr_snd tab mixed) Nm.ref09_Short_h rfl (by kernel_rfl) (Nat.le_of_ble_eq_true rfl) rfl ?_
  unfold shortIs
  by_cases h : l.length ≤ 60
  · rw [decide_eq_true h, Bool.true_and]
    refine ND.no (by (simp only [List.length_map, List.length_append, List.length_replicate, List.length_cons, List.length_nil, List.length_take, List.length_drop]; omega)) ?_
    refine NLoop.mk [] [0, 3] (fun m vs H => ∃ i, i ≤ l.length ∧ m = l.length - i ∧ (∀ x ∈ l.take i, shortI x = true) ∧ H = [] ∧ vs = [itemsA l, i64 i]) rfl ?_ ?_
    · exact Canon.mk [] rfl ⟨l.length, 0, Nat.zero_le _, rfl, by simp, rfl, rfl⟩
    · rintro m vs H ⟨i, hi, rfl, ht, rfl, rfl⟩
      by_cases hil : i < l.length
      · obtain ⟨f1, f2⟩ := all_step hil ht
        obtain ⟨x1, x2, _, x3, _⟩ := hx _ (List.getElem_mem hil)
        have x1 := reach_lt x1
        have x2 := reach_lt x2
        have x3 := reach_lt x3
        cases hp : shortI l[i] with
        | true =>
          have hp' := hp
          unfold shortI at hp'
          simp only [decide_eq_true_eq] at hp'
          refine ND.yes (by (simp only [List.length_map, List.length_append, List.length_replicate, List.length_cons, List.length_nil, List.length_take, List.length_drop]; omega)) ?_
          refine NP.mk (by omega) ?_
          refine NG.mapN (by omega) ?_
          refine ND.no (by omega) ?_
          refine NP.mk (by omega) ?_
          refine NG.mapN (by omega) ?_
          refine ND.no (by omega) ?_
          refine NP.mk (by omega) ?_
          refine NG.mapN (by omega) ?_
          refine ND.no (by omega) ?_
          refine NW.i64 (by omega) (by omega) ?_
          exact Canon.mk [] rfl ⟨l.length - (i + 1), by omega, i + 1, by omega, rfl, f2 hp, rfl, rfl⟩
        | false =>
          rw [f1 hp]
          have hp' := hp
          unfold shortI at hp'
          simp only [decide_eq_false_iff_not] at hp'
          refine ND.yes (by (simp only [List.length_map, List.length_append, List.length_replicate, List.length_cons, List.length_nil, List.length_take, List.length_drop]; omega)) ?_
          refine NP.mk (by omega) ?_
          refine NG.mapN (by omega) ?_
          refine NB.dec (fun hk2 => ?_) (fun hk2 => ?_)
          · exact NRet.mk [] rfl ⟨.refl _, rfl⟩
          refine NP.mk (by omega) ?_
          refine NG.mapN (by omega) ?_
          refine NB.dec (fun hk3 => ?_) (fun hk3 => ?_)
          · exact NRet.mk [] rfl ⟨.refl _, rfl⟩
          refine NP.mk (by omega) ?_
          refine NG.mapN (by omega) ?_
          refine ND.yes (by omega) ?_
          exact NRet.mk [] rfl ⟨.refl _, rfl⟩
      · have : i = l.length := by omega
        subst this
        rw [all_end ht]
        refine ND.no (by (simp only [List.length_map, List.length_append, List.length_replicate, List.length_cons, List.length_nil, List.length_take, List.length_drop]; omega)) ?_
        exact NRet.mk [] rfl ⟨.refl _, rfl⟩
  · rw [decide_eq_false h, Bool.false_and]
    refine ND.yes (by (simp only [List.length_map, List.length_append, List.length_replicate, List.length_cons, List.length_nil, List.length_take, List.length_drop]; omega)) ?_
    exact NRet.mk [] rfl ⟨.refl _, rfl⟩
theorem under9_walk (l : List Item) (z : List (List UInt8)) (hl : l.length ≤ 2 ^ 38) (hz : z.length ≤ 2 ^ 40) (hx : ∀ e ∈ l, smItem e) : ACalls Try.prog Nm.ref09_Under [itemsA l, strsA z] [] (itemsA (underI l fun k => z.any (begins k))) [] := by
  refine ACalls_of tab (dr_snd tab mixed) Nm.ref09_Under_h rfl (by kernel_rfl) (Nat.le_of_ble_eq_true rfl) rfl ?_
  refine NLoop.mk [(5, .agg 8)] [0, 1, 5, 6] (fun m vs H => ∃ i, i ≤ l.length ∧ m = l.length - i ∧ H = [.row .vrow (.agg 8) ((underI (l.take i) fun k => z.any (begins k)).map itemA)] ∧ vs = [itemsA l, strsA z, .own 0 0 ((underI (l.take i) fun k => z.any (begins k)).map itemA).length, i64 i]) rfl ?_ ?_
  · exact Canon.mk [0] rfl ⟨l.length, 0, Nat.zero_le _, rfl, rfl, rfl⟩
  · rintro m vs H ⟨i, hi, rfl, rfl, rfl⟩
    by_cases hil : i < l.length
    · have hc := covers8_walk z l[i].key hz (by have := (hx _ (List.getElem_mem hil)).1; omega)
      have hft := filter_take (fun e : Item => z.any (begins e.key)) l hil
      have hfl : (underI (l.take i) fun k => z.any (begins k)).length ≤ 2 ^ 38 := by
        unfold underI
        refine Nat.le_trans (List.length_filter_le _ _) ?_
        rw [List.length_take]; omega
      cases hp : z.any (begins l[i].key) with
      | true =>
        rw [hp] at hc
        rw [hp, if_pos rfl] at hft
        refine ND.yes (by (simp only [List.length_map, List.length_append, List.length_replicate, List.length_cons, List.length_nil, List.length_take, List.length_drop]; omega)) ?_
        refine NP.mk (by omega) ?_
        refine NG.mapN (by omega) ?_
        refine NCall.call (hc) rfl rfl ?_
        refine NP.mk (by omega) ?_
        refine NG.mapN (by omega) ?_
        refine NFz.own ?_
        refine NApp.endA rfl (by simp; omega) ?_
        refine NW.i64 (by omega) (by omega) ?_
        exact Canon.mk [1] rfl ⟨l.length - (i + 1), by omega, i + 1, by omega, rfl, by unfold underI; rw [hft, List.map_append]; rfl, by unfold underI; rw [hft, List.map_append]; rfl⟩
      | false =>
        rw [hp] at hc
        rw [hp, if_neg (by simp)] at hft
        refine ND.yes (by (simp only [List.length_map, List.length_append, List.length_replicate, List.length_cons, List.length_nil, List.length_take, List.length_drop]; omega)) ?_
        refine NP.mk (by omega) ?_
        refine NG.mapN (by omega) ?_
        refine NCall.call (hc) rfl rfl ?_
        refine NW.i64 (by omega) (by omega) ?_
        exact Canon.mk [0] rfl ⟨l.length - (i + 1), by omega, i + 1, by omega, rfl, by unfold underI; rw [hft], by unfold underI; rw [hft]; rfl⟩
    · have : i = l.length := by omega
      subst this
      rw [List.take_length]
      refine ND.no (by (simp only [List.length_map, List.length_append, List.length_replicate, List.length_cons, List.length_nil, List.length_take, List.length_drop]; omega)) ?_
      exact NRet.mk [] rfl (NFrz.mk ((underI l fun k => z.any (begins k)).map itemA) (by simp) (by rw [List.drop_zero, List.take_of_length_le (by simp)]) ⟨.refl _, rfl⟩)
theorem hasL_walk (l : List Item) (node seq : Int) (hl : l.length ≤ 2 ^ 38) : ACalls Try.prog Nm.law10_has [itemsA l, i64 node, i64 seq] [] (.bool (hasI l node seq)) [] := by
  refine ACalls_of tab (dr_snd tab mixed) Nm.law10_has_h rfl (by kernel_rfl) (Nat.le_of_ble_eq_true rfl) rfl ?_
  refine NLoop.mk [] [0, 1, 2, 7] (fun m vs H => ∃ i, i ≤ l.length ∧ m = l.length - i ∧ (∀ x ∈ l.take i, decide (x.dot.node = node ∧ x.dot.seq = seq) = false) ∧ H = [] ∧ vs = [itemsA l, i64 node, i64 seq, i64 i]) rfl ?_ ?_
  · exact Canon.mk [] rfl ⟨l.length, 0, Nat.zero_le _, rfl, by simp, rfl, rfl⟩
  · rintro m vs H ⟨i, hi, rfl, ht, rfl, rfl⟩
    by_cases hil : i < l.length
    · obtain ⟨f1, f2⟩ := find_step (p := fun x : Item => decide (x.dot.node = node ∧ x.dot.seq = seq)) hil ht
      by_cases hp : l[i].dot.node = node ∧ l[i].dot.seq = seq
      · rw [show hasI l node seq = true from List.any_eq_true.2 ⟨_, List.getElem_mem hil, decide_eq_true hp⟩]
        refine ND.yes (by (simp only [List.length_map, List.length_append, List.length_replicate, List.length_cons, List.length_nil, List.length_take, List.length_drop]; omega)) ?_
        refine NP.mk (by omega) ?_
        refine NG.mapN (by omega) ?_
        refine ND.yes (by omega) ?_
        refine NP.mk (by omega) ?_
        refine NG.mapN (by omega) ?_
        refine ND.yes (by omega) ?_
        exact NRet.mk [] rfl ⟨.refl _, rfl⟩
      · have f2 := f2 (decide_eq_false hp)
        by_cases h1 : l[i].dot.node = node
        · have h2 : ¬ l[i].dot.seq = seq := fun h => hp ⟨h1, h⟩
          refine ND.yes (by (simp only [List.length_map, List.length_append, List.length_replicate, List.length_cons, List.length_nil, List.length_take, List.length_drop]; omega)) ?_
          refine NP.mk (by omega) ?_
          refine NG.mapN (by omega) ?_
          refine ND.yes (by omega) ?_
          refine NP.mk (by omega) ?_
          refine NG.mapN (by omega) ?_
          refine ND.no (by omega) ?_
          refine NW.i64 (by omega) (by omega) ?_
          exact Canon.mk [] rfl ⟨l.length - (i + 1), by omega, i + 1, by omega, rfl, f2, rfl, rfl⟩
        · refine ND.yes (by (simp only [List.length_map, List.length_append, List.length_replicate, List.length_cons, List.length_nil, List.length_take, List.length_drop]; omega)) ?_
          refine NP.mk (by omega) ?_
          refine NG.mapN (by omega) ?_
          refine ND.no (by omega) ?_
          refine NW.i64 (by omega) (by omega) ?_
          exact Canon.mk [] rfl ⟨l.length - (i + 1), by omega, i + 1, by omega, rfl, f2, rfl, rfl⟩
    · have : i = l.length := by omega
      subst this
      rw [List.take_length] at ht
      rw [show hasI l node seq = false from List.any_eq_false.2 fun x hx => by rw [ht x hx]; simp]
      refine ND.no (by (simp only [List.length_map, List.length_append, List.length_replicate, List.length_cons, List.length_nil, List.length_take, List.length_drop]; omega)) ?_
      exact NRet.mk [] rfl ⟨.refl _, rfl⟩
end Go.Bv
namespace Go.Bv
set_option linter.unusedSimpArgs false
set_option linter.unusedVariables false
set_option maxHeartbeats 4000000
open Go Go.Proofs
end Go.Bv
namespace Go.Bv
open Go Go.Proofs
end Go.Bv
namespace Go.Bv
set_option linter.unusedSimpArgs false
set_option linter.unusedVariables false
set_option maxHeartbeats 4000000
set_option maxRecDepth 20000
open Go Go.Proofs
end Go.Bv
namespace Go.Bv
open Go Go.Proofs
def numB (n : Int) : List UInt8 := numBytes n.toNat
def textB (s : List UInt8) : List UInt8 := numBytes s.length ++ s
def int8B (n : Int) : List UInt8 := intBytes (u64of n) 8
def numsB (l : List Int) : List UInt8 := l.flatMap numB
def dotB (d : Dot) : List UInt8 := numsB [d.node, d.seq, d.at']
def effB (e : Eff) : List UInt8 := numB e.at' ++ (textB e.key ++ (textB e.field ++ (numB e.kind ++ (textB e.elem ++ (int8B e.n ++ (numB e.drops.length ++ e.drops.flatMap dotB))))))
theorem numsB_cons (n : Int) (l : List Int) : numsB (n :: l) = numB n ++ numsB l := rfl
theorem numsB_nil : numsB [] = [] := rfl
end Go.Bv
namespace Go.Bv
set_option linter.unusedSimpArgs false
set_option linter.unusedVariables false
set_option maxHeartbeats 4000000
set_option maxRecDepth 20000
open Go Go.Proofs
/-- The steps of an effect's bytes. -/
structure Steps (c0 : List UInt8) (e : Eff) where
  c1 : List UInt8
  c2 : List UInt8
  c3 : List UInt8
  c4 : List UInt8
  c5 : List UInt8
  c6 : List UInt8
  c7 : List UInt8
  h1 : c1 = c0 ++ numsB [e.at']
  h2 : c2 = c1 ++ textB e.key
  h3 : c3 = c2 ++ textB e.field
  h4 : c4 = c3 ++ numsB [e.kind]
  h5 : c5 = c4 ++ textB e.elem
  h6 : c6 = c5 ++ int8B e.n
  h7 : c7 = c6 ++ numsB [(e.drops.length : Int)]
def steps (c0 : List UInt8) (e : Eff) : Steps c0 e := ⟨_, _, _, _, _, _, _, rfl, rfl, rfl, rfl, rfl, rfl, rfl⟩
theorem Steps.eff {c0 : List UInt8} {e : Eff} (s : Steps c0 e) : s.c7 ++ e.drops.flatMap dotB = c0 ++ effB e := by
  rw [s.h7, s.h6, s.h5, s.h4, s.h3, s.h2, s.h1]
  simp only [effB, numsB_cons, numsB_nil, List.append_nil, List.append_assoc]
end Go.Bv
namespace Go.Bv
open Go Go.Proofs
end Go.Bv
namespace Go.Bv
set_option linter.unusedSimpArgs false
set_option linter.unusedVariables false
set_option maxHeartbeats 4000000
set_option maxRecDepth 20000
open Go Go.Proofs
end Go.Bv
namespace Go.Bv
set_option linter.unusedSimpArgs false
set_option linter.unusedVariables false
set_option maxHeartbeats 4000000
set_option maxRecDepth 20000
open Go Go.Proofs
end Go.Bv
namespace Go.Bv
set_option linter.unusedSimpArgs false
set_option linter.unusedVariables false
set_option maxHeartbeats 4000000
set_option maxRecDepth 20000
open Go Go.Proofs
end Go.Bv
namespace Go.Bv
set_option linter.unusedSimpArgs false
set_option linter.unusedVariables false
set_option maxHeartbeats 4000000
open Go Go.Proofs
end Go.Bv
namespace Go.Bv
set_option linter.unusedSimpArgs false
set_option linter.unusedVariables false
set_option maxHeartbeats 4000000
set_option maxRecDepth 20000
open Go Go.Proofs
end Go.Bv
namespace Go.Bv
set_option linter.unusedSimpArgs false
set_option linter.unusedVariables false
set_option maxHeartbeats 4000000
set_option maxRecDepth 20000
open Go Go.Proofs
theorem shortEs_sm {l : List Eff} (h : shortEs l = true) : l.length ≤ 20 ∧ ∀ e ∈ l, smEff e := by
  unfold shortEs at h
  rw [Bool.and_eq_true, List.all_eq_true] at h
  refine ⟨of_decide_eq_true h.1, fun e he => ?_⟩
  have := of_decide_eq_true (h.2 e he)
  exact ⟨by omega, by omega, by omega, by omega⟩
theorem shortIs_sm {l : List Item} (h : shortIs l = true) : l.length ≤ 60 ∧ ∀ e ∈ l, smItem e := by
  unfold shortIs at h
  rw [Bool.and_eq_true, List.all_eq_true] at h
  refine ⟨of_decide_eq_true h.1, fun e he => ?_⟩
  have := of_decide_eq_true (h.2 e he)
  exact ⟨by omega, by omega, by omega⟩
def x10 : Item := ⟨[97], [], 1, [120], 0, ⟨0, 1, 0⟩⟩
def e10 : Eff := ⟨0, [97], [], 1, [121], 0, [⟨0, 1, 0⟩]⟩
theorem do10 : doL 1 1 [x10] [e10] = [⟨[97], [], 1, [121], 0, ⟨1, 1, 0⟩⟩] := by
  show norm (rawE 1 1 [x10] e10) = _
  rw [show rawE 1 1 [x10] e10 = [⟨[97], [], 1, [121], 0, ⟨1, 1, 0⟩⟩] by decide]
  exact norm_self (by simp) (by simp)
theorem awake10 : ACalls Try.prog Nm.law10_awake [] [] (.bool true) [] := by
  refine ACalls_of tab (dr_snd tab mixed) Nm.law10_awake_h rfl (by kernel_rfl) (Nat.le_of_ble_eq_true rfl) rfl ?_
  have h1 := do_walk [x10] 1 1 [e10] (by simp) (by simp) (by simp [smEff, e10])
  rw [do10] at h1
  have h2 := right_walk 1 1 [e10] (by simp) (by simp [smEff, e10])
  rw [show effsOk 1 1 [e10] = true by decide] at h2
  refine NCall.call (h1) rfl rfl ?_
  refine ND.yes (by rfl) ?_
  refine NP.mk (by omega) ?_
  refine NG.mapN (by (simp only [List.length_map, List.length_append, List.length_replicate, List.length_cons, List.length_nil, List.length_take, List.length_drop]; omega)) ?_
  refine ND.yes (by rfl) ?_
  refine NP.mk (by omega) ?_
  refine NG.mapN (by (simp only [List.length_map, List.length_append, List.length_replicate, List.length_cons, List.length_nil, List.length_take, List.length_drop]; omega)) ?_
  refine ND.yes (by simp) ?_
  refine NCall.call (h2) rfl rfl ?_
  exact NRet.mk [] rfl ⟨.refl _, rfl⟩
theorem sameI_self (l : List Item) (h : l.length ≤ 2 ^ 38) : ACalls Try.prog Nm.ref09_Same [itemsA l, itemsA l] [] (.bool true) [] := by
  have := same9_walk l l h
  rwa [decide_eq_true rfl] at this
end Go.Bv
namespace Go.Bv
set_option linter.unusedSimpArgs false
set_option linter.unusedVariables false
set_option maxHeartbeats 4000000
set_option maxRecDepth 20000
open Go Go.Proofs
def pA (p : Int × Int) : AV := .agg [i64 p.1, i64 p.2]
def prs (a b : Item) : List (Int × Int) := [(a.kind, b.kind), (a.dot.node, b.dot.node), (a.dot.seq, b.dot.seq), (a.dot.at', b.dot.at')]
theorem less9_walk (a b : Item) : ACalls Try.prog Nm.ref09_Less [itemA a, itemA b] [] (.bool (ltI a b)) [] := by
  refine ACalls_of tab (dr_snd tab mixed) Nm.ref09_Less_h rfl (by kernel_rfl) (Nat.le_of_ble_eq_true rfl) rfl ?_
  by_cases h1 : a.key = b.key
  · by_cases h2 : a.field = b.field
    · refine ND.yes (by omega) ?_
      refine ND.yes (by omega) ?_
      refine NLoop.mk [] [2, 3, 53, 54, 55] (fun m vs H => ∃ i, i ≤ 4 ∧ m = 4 - i ∧ (0 < i → a.kind = b.kind) ∧ (1 < i → a.dot.node = b.dot.node) ∧ (2 < i → a.dot.seq = b.dot.seq) ∧ (3 < i → a.dot.at' = b.dot.at') ∧ H = [.row .box (.agg 8) [itemA a], .row .box (.agg 8) [itemA b]] ∧
        vs = [.ptr 0 0 0, .ptr 1 0 0, .list (.agg 2) ((prs a b).map pA), i64 4, i64 i]) rfl ?_ ?_
      · exact Canon.mk [0, 1] rfl ⟨_, 0, by omega, rfl, fun h => by omega, fun h => by omega, fun h => by omega, fun h => by omega, rfl, rfl⟩
      rintro m vs H ⟨i, hi, rfl, e1, e2, e3, e4, rfl, rfl⟩
      have hlt : ltI a b = decide (a.kind < b.kind ∨ a.kind = b.kind ∧ (a.dot.node < b.dot.node ∨ a.dot.node = b.dot.node ∧ (a.dot.seq < b.dot.seq ∨ a.dot.seq = b.dot.seq ∧ (a.dot.at' < b.dot.at' ∨ a.dot.at' = b.dot.at' ∧ (ltS a.elem b.elem ∨ a.elem = b.elem ∧ a.n < b.n))))) := by
        unfold ltI ILt lexR ltN ltZ
        rw [Bool.eq_iff_iff]
        simp [h1, h2, ltS_irrefl]
      rcases (by omega : i = 0 ∨ i = 1 ∨ i = 2 ∨ i = 3 ∨ i = 4) with rfl | rfl | rfl | rfl | rfl
      · by_cases hd : a.kind = b.kind
        · refine ND.yes (by omega) ?_
          refine NP.mk (by omega) ?_
          refine NG.mk _ rfl ?_
          refine NP.mk (by omega) ?_
          refine NP.mk (by omega) ?_
          refine ND.yes (by omega) ?_
          refine NW.i64 (by omega) (by omega) ?_
          exact Canon.mk [0, 1] rfl ⟨3, by omega, 1, by omega, rfl, fun _ => hd, fun h => by omega, fun h => by omega, fun h => by omega, rfl, rfl⟩
        · rw [hlt, show decide (a.kind < b.kind ∨ a.kind = b.kind ∧ (a.dot.node < b.dot.node ∨ a.dot.node = b.dot.node ∧ (a.dot.seq < b.dot.seq ∨ a.dot.seq = b.dot.seq ∧ (a.dot.at' < b.dot.at' ∨ a.dot.at' = b.dot.at' ∧ (ltS a.elem b.elem ∨ a.elem = b.elem ∧ a.n < b.n))))) = decide (a.kind < b.kind) by rw [Bool.eq_iff_iff]; simp [hd]]
          refine ND.yes (by omega) ?_
          refine NP.mk (by omega) ?_
          refine NG.mk _ rfl ?_
          refine NP.mk (by omega) ?_
          refine NP.mk (by omega) ?_
          refine ND.no (by omega) ?_
          refine NP.mk (by omega) ?_
          refine NP.mk (by omega) ?_
          refine NB.dec (fun hk3 => ?_) (fun hk3 => ?_)
          · refine NRet.boolE (b := true) ?_ (NRet.mk [] rfl ⟨.refl _, rfl⟩)
            (simp only [decide_eq_true_eq, decide_eq_false_iff_not, eq_comm (a := true), eq_comm (a := false)]; omega)
          refine NRet.boolE (b := false) ?_ (NRet.mk [] rfl ⟨.refl _, rfl⟩)
          (simp only [decide_eq_true_eq, decide_eq_false_iff_not, eq_comm (a := true), eq_comm (a := false)]; omega)
      · have e1 := e1 (by omega)
        by_cases hd : a.dot.node = b.dot.node
        · refine ND.yes (by omega) ?_
          refine NP.mk (by omega) ?_
          refine NG.mk _ rfl ?_
          refine NP.mk (by omega) ?_
          refine NP.mk (by omega) ?_
          refine ND.yes (by omega) ?_
          refine NW.i64 (by omega) (by omega) ?_
          exact Canon.mk [0, 1] rfl ⟨2, by omega, 2, by omega, rfl, fun _ => e1, fun _ => hd, fun h => by omega, fun h => by omega, rfl, rfl⟩
        · rw [hlt, show decide (a.kind < b.kind ∨ a.kind = b.kind ∧ (a.dot.node < b.dot.node ∨ a.dot.node = b.dot.node ∧ (a.dot.seq < b.dot.seq ∨ a.dot.seq = b.dot.seq ∧ (a.dot.at' < b.dot.at' ∨ a.dot.at' = b.dot.at' ∧ (ltS a.elem b.elem ∨ a.elem = b.elem ∧ a.n < b.n))))) = decide (a.dot.node < b.dot.node) by rw [Bool.eq_iff_iff]; simp [hd, e1]]
          refine ND.yes (by omega) ?_
          refine NP.mk (by omega) ?_
          refine NG.mk _ rfl ?_
          refine NP.mk (by omega) ?_
          refine NP.mk (by omega) ?_
          refine ND.no (by omega) ?_
          refine NP.mk (by omega) ?_
          refine NP.mk (by omega) ?_
          refine NB.dec (fun hk3 => ?_) (fun hk3 => ?_)
          · refine NRet.boolE (b := true) ?_ (NRet.mk [] rfl ⟨.refl _, rfl⟩)
            (simp only [decide_eq_true_eq, decide_eq_false_iff_not, eq_comm (a := true), eq_comm (a := false)]; omega)
          refine NRet.boolE (b := false) ?_ (NRet.mk [] rfl ⟨.refl _, rfl⟩)
          (simp only [decide_eq_true_eq, decide_eq_false_iff_not, eq_comm (a := true), eq_comm (a := false)]; omega)
      · have e1 := e1 (by omega)
        have e2 := e2 (by omega)
        by_cases hd : a.dot.seq = b.dot.seq
        · refine ND.yes (by omega) ?_
          refine NP.mk (by omega) ?_
          refine NG.mk _ rfl ?_
          refine NP.mk (by omega) ?_
          refine NP.mk (by omega) ?_
          refine ND.yes (by omega) ?_
          refine NW.i64 (by omega) (by omega) ?_
          exact Canon.mk [0, 1] rfl ⟨1, by omega, 3, by omega, rfl, fun _ => e1, fun _ => e2, fun _ => hd, fun h => by omega, rfl, rfl⟩
        · rw [hlt, show decide (a.kind < b.kind ∨ a.kind = b.kind ∧ (a.dot.node < b.dot.node ∨ a.dot.node = b.dot.node ∧ (a.dot.seq < b.dot.seq ∨ a.dot.seq = b.dot.seq ∧ (a.dot.at' < b.dot.at' ∨ a.dot.at' = b.dot.at' ∧ (ltS a.elem b.elem ∨ a.elem = b.elem ∧ a.n < b.n))))) = decide (a.dot.seq < b.dot.seq) by rw [Bool.eq_iff_iff]; simp [hd, e1, e2]]
          refine ND.yes (by omega) ?_
          refine NP.mk (by omega) ?_
          refine NG.mk _ rfl ?_
          refine NP.mk (by omega) ?_
          refine NP.mk (by omega) ?_
          refine ND.no (by omega) ?_
          refine NP.mk (by omega) ?_
          refine NP.mk (by omega) ?_
          refine NB.dec (fun hk3 => ?_) (fun hk3 => ?_)
          · refine NRet.boolE (b := true) ?_ (NRet.mk [] rfl ⟨.refl _, rfl⟩)
            (simp only [decide_eq_true_eq, decide_eq_false_iff_not, eq_comm (a := true), eq_comm (a := false)]; omega)
          refine NRet.boolE (b := false) ?_ (NRet.mk [] rfl ⟨.refl _, rfl⟩)
          (simp only [decide_eq_true_eq, decide_eq_false_iff_not, eq_comm (a := true), eq_comm (a := false)]; omega)
      · have e1 := e1 (by omega)
        have e2 := e2 (by omega)
        have e3 := e3 (by omega)
        by_cases hd : a.dot.at' = b.dot.at'
        · refine ND.yes (by omega) ?_
          refine NP.mk (by omega) ?_
          refine NG.mk _ rfl ?_
          refine NP.mk (by omega) ?_
          refine NP.mk (by omega) ?_
          refine ND.yes (by omega) ?_
          refine NW.i64 (by omega) (by omega) ?_
          exact Canon.mk [0, 1] rfl ⟨0, by omega, 4, by omega, rfl, fun _ => e1, fun _ => e2, fun _ => e3, fun _ => hd, rfl, rfl⟩
        · rw [hlt, show decide (a.kind < b.kind ∨ a.kind = b.kind ∧ (a.dot.node < b.dot.node ∨ a.dot.node = b.dot.node ∧ (a.dot.seq < b.dot.seq ∨ a.dot.seq = b.dot.seq ∧ (a.dot.at' < b.dot.at' ∨ a.dot.at' = b.dot.at' ∧ (ltS a.elem b.elem ∨ a.elem = b.elem ∧ a.n < b.n))))) = decide (a.dot.at' < b.dot.at') by rw [Bool.eq_iff_iff]; simp [hd, e1, e2, e3]]
          refine ND.yes (by omega) ?_
          refine NP.mk (by omega) ?_
          refine NG.mk _ rfl ?_
          refine NP.mk (by omega) ?_
          refine NP.mk (by omega) ?_
          refine ND.no (by omega) ?_
          refine NP.mk (by omega) ?_
          refine NP.mk (by omega) ?_
          refine NB.dec (fun hk3 => ?_) (fun hk3 => ?_)
          · refine NRet.boolE (b := true) ?_ (NRet.mk [] rfl ⟨.refl _, rfl⟩)
            (simp only [decide_eq_true_eq, decide_eq_false_iff_not, eq_comm (a := true), eq_comm (a := false)]; omega)
          refine NRet.boolE (b := false) ?_ (NRet.mk [] rfl ⟨.refl _, rfl⟩)
          (simp only [decide_eq_true_eq, decide_eq_false_iff_not, eq_comm (a := true), eq_comm (a := false)]; omega)
      · have e1 := e1 (by omega)
        have e2 := e2 (by omega)
        have e3 := e3 (by omega)
        have e4 := e4 (by omega)
        rw [hlt, show decide (a.kind < b.kind ∨ a.kind = b.kind ∧ (a.dot.node < b.dot.node ∨ a.dot.node = b.dot.node ∧ (a.dot.seq < b.dot.seq ∨ a.dot.seq = b.dot.seq ∧ (a.dot.at' < b.dot.at' ∨ a.dot.at' = b.dot.at' ∧ (ltS a.elem b.elem ∨ a.elem = b.elem ∧ a.n < b.n))))) = decide (ltS a.elem b.elem ∨ a.elem = b.elem ∧ a.n < b.n) by rw [Bool.eq_iff_iff]; simp [e1, e2, e3, e4]]
        by_cases hd : a.elem = b.elem
        · rw [show decide (ltS a.elem b.elem ∨ a.elem = b.elem ∧ a.n < b.n) = decide (a.n < b.n) by rw [Bool.eq_iff_iff]; simp [hd, ltS_irrefl]]
          refine ND.no (by omega) ?_
          refine ND.yes (by omega) ?_
          refine NB.dec (fun hk3 => ?_) (fun hk3 => ?_)
          · refine NRet.boolE (b := true) ?_ (NRet.mk [] rfl ⟨.refl _, rfl⟩)
            (simp only [decide_eq_true_eq, decide_eq_false_iff_not, eq_comm (a := true), eq_comm (a := false)]; omega)
          refine NRet.boolE (b := false) ?_ (NRet.mk [] rfl ⟨.refl _, rfl⟩)
          (simp only [decide_eq_true_eq, decide_eq_false_iff_not, eq_comm (a := true), eq_comm (a := false)]; omega)
        · rw [show decide (ltS a.elem b.elem ∨ a.elem = b.elem ∧ a.n < b.n) = decide (ltS a.elem b.elem) by rw [Bool.eq_iff_iff]; simp [hd], ← bytesLess_lt]
          refine ND.no (by omega) ?_
          refine ND.no (by omega) ?_
          refine NB.dec (fun hk3 => ?_) (fun hk3 => ?_)
          · refine NRet.boolE (b := true) ?_ (NRet.mk [] rfl ⟨.refl _, rfl⟩)
            (simp only [decide_eq_true_eq, decide_eq_false_iff_not, eq_comm (a := true), eq_comm (a := false)]; omega)
          refine NRet.boolE (b := false) ?_ (NRet.mk [] rfl ⟨.refl _, rfl⟩)
          (simp [*]; done)
    · have hL : ltI a b = decide (ltS a.field b.field) := by
        unfold ltI ILt lexR
        rw [Bool.eq_iff_iff]
        simp [h1, h2, ltS_irrefl]
      rw [hL, ← bytesLess_lt]
      refine ND.yes (by omega) ?_
      refine ND.no (by omega) ?_
      refine NB.dec (fun hk3 => ?_) (fun hk3 => ?_)
      · refine NRet.boolE (b := true) ?_ (NRet.mk [] rfl ⟨.refl _, rfl⟩)
        (simp only [decide_eq_true_eq, decide_eq_false_iff_not, eq_comm (a := true), eq_comm (a := false)]; omega)
      refine NRet.boolE (b := false) ?_ (NRet.mk [] rfl ⟨.refl _, rfl⟩)
      (simp [*]; done)
  · have hL : ltI a b = decide (ltS a.key b.key) := by
      unfold ltI ILt lexR
      rw [Bool.eq_iff_iff]
      simp [h1]
    rw [hL, ← bytesLess_lt]
    refine ND.no (by omega) ?_
    refine NB.dec (fun hk2 => ?_) (fun hk2 => ?_)
    · refine NRet.boolE (b := true) ?_ (NRet.mk [] rfl ⟨.refl _, rfl⟩)
      (simp only [decide_eq_true_eq, decide_eq_false_iff_not, eq_comm (a := true), eq_comm (a := false)]; omega)
    refine NRet.boolE (b := false) ?_ (NRet.mk [] rfl ⟨.refl _, rfl⟩)
    (simp [*]; done)
theorem put9_walk (l : List Item) (x : Item) (hl : l.length ≤ 2 ^ 38) : ACalls Try.prog Nm.ref09_Put [itemsA l, itemA x] [] (itemsA (putI l x)) [] := by
  refine ACalls_of tab (dr_snd tab mixed) Nm.ref09_Put_h rfl (by kernel_rfl) (Nat.le_of_ble_eq_true rfl) rfl ?_
  skip
  refine NLoop.mk [] [0, 3, 5] (fun m vs H => ∃ i, i ≤ l.length ∧ m = l.length - i ∧ (∀ (j : Nat) (h : j < l.length), j < i → ltI l[j] x = true) ∧ H = [.row .box (.agg 8) [itemA x]] ∧ vs = [itemsA l, .ptr 0 0 0, i64 i]) rfl ?_ ?_
  · exact Canon.mk [0] rfl ⟨l.length, 0, Nat.zero_le _, rfl, fun j h hj => by omega, rfl, rfl⟩
  rintro m vs H ⟨i, hi, rfl, ht, rfl, rfl⟩
  have fin : (∀ h : i < l.length, ltI l[i] x = false) → putI l x = l.take i ++ x :: l.drop i := fun h => putI_at l x i hi ht h
  have et : List.take i (l.map itemA) = (l.take i).map itemA := List.map_take.symm
  have ed : List.drop i (l.map itemA) = (l.drop i).map itemA := List.map_drop.symm
  by_cases hil : i < l.length
  · have h1 := less9_walk l[i] x
    cases hp : ltI l[i] x with
    | true =>
      rw [hp] at h1
      refine NP.mk (by kernel_rfl) ?_
      apply NDr.pure
      · exact ⟨rfl, rfl⟩
      apply NDr.pure
      · exact ⟨rfl, rfl⟩
      apply NDr.pure
      · exact ⟨rfl, rfl⟩
      apply NDr.pure
      · refine ND.yes (by (simp only [List.length_map, List.length_append, List.length_replicate, List.length_cons, List.length_nil, List.length_take, List.length_drop]; omega)) ?_
        exact ⟨rfl, rfl⟩
      apply NDr.pure
      · exact ⟨rfl, rfl⟩
      apply NDr.pure
      · exact ⟨rfl, rfl⟩
      apply NDr.pure
      · exact ⟨rfl, rfl⟩
      apply NDr.pure
      · refine NP.mk (by omega) ?_
        refine NG.mapN (by omega) ?_
        exact ⟨rfl, rfl⟩
      apply NDr.pure
      · exact ⟨rfl, rfl⟩
      apply NDr.rd [0]
      · intro fH TH
        exact ⟨rfl, rfl⟩
      apply NDr.pure
      · refine NCall.call (h1) rfl rfl ?_
        exact ⟨rfl, rfl⟩
      apply NDr.pure
      · exact ⟨rfl, rfl⟩
      refine NP.mk (by kernel_rfl) ?_
      refine NW.i64 (by omega) (by omega) ?_
      exact Canon.mk [0] rfl ⟨l.length - (i + 1), by omega, i + 1, by omega, rfl, fun j hj hji => by
        rcases Nat.lt_or_ge j i with h | h
        · exact ht j hj h
        · have : j = i := by omega
          subst this; exact hp, rfl, rfl⟩
    | false =>
      rw [hp] at h1
      rw [fin fun _ => hp]
      refine NP.mk (by kernel_rfl) ?_
      apply NDr.pure
      · exact ⟨rfl, rfl⟩
      apply NDr.pure
      · exact ⟨rfl, rfl⟩
      apply NDr.pure
      · exact ⟨rfl, rfl⟩
      apply NDr.pure
      · refine ND.yes (by (simp only [List.length_map, List.length_append, List.length_replicate, List.length_cons, List.length_nil, List.length_take, List.length_drop]; omega)) ?_
        exact ⟨rfl, rfl⟩
      apply NDr.pure
      · exact ⟨rfl, rfl⟩
      apply NDr.pure
      · exact ⟨rfl, rfl⟩
      apply NDr.pure
      · exact ⟨rfl, rfl⟩
      apply NDr.pure
      · refine NP.mk (by omega) ?_
        refine NG.mapN (by omega) ?_
        exact ⟨rfl, rfl⟩
      apply NDr.pure
      · exact ⟨rfl, rfl⟩
      apply NDr.rd [0]
      · intro fH TH
        exact ⟨rfl, rfl⟩
      apply NDr.pure
      · refine NCall.call (h1) rfl rfl ?_
        exact ⟨rfl, rfl⟩
      apply NDr.pure
      · exact ⟨rfl, rfl⟩
      refine NP.mk (by kernel_rfl) ?_
      refine NP.mk (by (simp only [List.length_map, List.length_append, List.length_replicate, List.length_cons, List.length_nil, List.length_take, List.length_drop]; omega)) ?_
      refine NFz.own ?_
      refine NApp.endA rfl (by simp; omega) ?_
      refine NP.mk (by kernel_rfl) ?_
      apply NDr.any
      · intro H'
        exact ⟨rfl, rfl⟩
      apply NDr.rd [0]
      · intro fH TH
        exact ⟨rfl, rfl⟩
      apply NDr.pure
      · exact ⟨rfl, rfl⟩
      apply NDr.efw [2]
      · refine NFz.own ?_
        refine NApp.endA rfl (by simp; omega) ?_
        exact ⟨rfl, rfl⟩
      · repeat (first | exact True.intro | refine ⟨by first | exact rfl | exact True.intro, ?_⟩)
      apply NDr.pure
      · exact ⟨rfl, rfl⟩
      apply NDr.pure
      · exact ⟨rfl, rfl⟩
      apply NDr.pure
      · refine NP.mk (by (simp only [List.length_map, List.length_append, List.length_replicate, List.length_cons, List.length_nil, List.length_take, List.length_drop]; omega)) ?_
        exact ⟨rfl, rfl⟩
      apply NDr.efw [3]
      · refine NFz.own ?_
        refine NApp.endA rfl (by simp; omega) ?_
        exact ⟨rfl, rfl⟩
      · repeat (first | exact True.intro | refine ⟨by first | exact rfl | exact True.intro, ?_⟩)
      apply NDr.any
      · intro H'
        exact ⟨rfl, rfl⟩
      refine NP.mk (by kernel_rfl) ?_
      exact NRet.mk [] rfl (NFrz.mk ((l.take i ++ x :: l.drop i).map itemA) (by simp) (by rw [List.drop_zero, List.take_length, Int.toNat_natCast, List.map_append, List.map_cons, List.map_take, List.map_drop, List.append_assoc]; rfl) ⟨.refl _, rfl⟩)
  · rw [fin fun h => absurd h hil]
    refine NP.mk (by kernel_rfl) ?_
    apply NDr.pure
    · exact ⟨rfl, rfl⟩
    apply NDr.pure
    · exact ⟨rfl, rfl⟩
    apply NDr.pure
    · exact ⟨rfl, rfl⟩
    apply NDr.pure
    · refine ND.no (by (simp only [List.length_map, List.length_append, List.length_replicate, List.length_cons, List.length_nil, List.length_take, List.length_drop]; omega)) ?_
      exact ⟨rfl, rfl⟩
    apply NDr.pure
    · exact ⟨rfl, rfl⟩
    apply NDr.pure
    · exact ⟨rfl, rfl⟩
    refine NP.mk (by kernel_rfl) ?_
    refine NP.mk (by (simp only [List.length_map, List.length_append, List.length_replicate, List.length_cons, List.length_nil, List.length_take, List.length_drop]; omega)) ?_
    refine NFz.own ?_
    refine NApp.endA rfl (by simp; omega) ?_
    refine NP.mk (by kernel_rfl) ?_
    apply NDr.any
    · intro H'
      exact ⟨rfl, rfl⟩
    apply NDr.rd [0]
    · intro fH TH
      exact ⟨rfl, rfl⟩
    apply NDr.pure
    · exact ⟨rfl, rfl⟩
    apply NDr.efw [2]
    · refine NFz.own ?_
      refine NApp.endA rfl (by simp; omega) ?_
      exact ⟨rfl, rfl⟩
    · repeat (first | exact True.intro | refine ⟨by first | exact rfl | exact True.intro, ?_⟩)
    apply NDr.pure
    · exact ⟨rfl, rfl⟩
    apply NDr.pure
    · exact ⟨rfl, rfl⟩
    apply NDr.pure
    · refine NP.mk (by (simp only [List.length_map, List.length_append, List.length_replicate, List.length_cons, List.length_nil, List.length_take, List.length_drop]; omega)) ?_
      exact ⟨rfl, rfl⟩
    apply NDr.efw [3]
    · refine NFz.own ?_
      refine NApp.endA rfl (by simp; omega) ?_
      exact ⟨rfl, rfl⟩
    · repeat (first | exact True.intro | refine ⟨by first | exact rfl | exact True.intro, ?_⟩)
    apply NDr.any
    · intro H'
      exact ⟨rfl, rfl⟩
    refine NP.mk (by kernel_rfl) ?_
    exact NRet.mk [] rfl (NFrz.mk ((l.take i ++ x :: l.drop i).map itemA) (by simp) (by rw [List.drop_zero, List.take_length, Int.toNat_natCast, List.map_append, List.map_cons, List.map_take, List.map_drop, List.append_assoc]; rfl) ⟨.refl _, rfl⟩)
def firstB (l : List Item) (i k : Nat) : Prop := ∀ (j : Nat) (y : Item), j < k → l[j]? = some y → ∀ x, l[i]? = some x → y.dot = x.dot → ¬ ILt y x ∧ ¬ (y = x ∧ j < i)
theorem norm9_walk (l : List Item) (hl : l.length ≤ 60000) : ACalls Try.prog Nm.ref09_Norm [itemsA l] [] (itemsA (norm l)) [] := by
  refine ACalls_of tab (dr_snd tab mixed) Nm.ref09_Norm_h rfl (by kernel_rfl) (Nat.le_of_ble_eq_true rfl) rfl ?_
  refine NLoop.mk [] [0, 3, 4] (fun m vs H => ∃ (i : Nat) (out : List Item), i ≤ l.length ∧ m = l.length - i ∧ out.length ≤ i ∧ Laid l out i ∧ H = [] ∧ vs = [itemsA l, itemsA out, i64 i]) rfl ?_ ?_
  · exact Canon.wk [] [itemsA l, itemsA [], i64 0] rfl ⟨.cons (.refl _) (.cons (.nils _) (.cons (.refl _) .nil)), l.length, 0, [], Nat.zero_le _, rfl, Nat.le_refl _, laid_zero l, rfl, rfl⟩
  rintro m vs H ⟨i, out, hi, rfl, hol, hL, rfl, rfl⟩
  by_cases hil : i < l.length
  · have hx := List.getElem?_eq_getElem hil
    refine ND.yes (by (simp only [List.length_map, List.length_append, List.length_replicate, List.length_cons, List.length_nil, List.length_take, List.length_drop]; omega)) ?_
    refine NLoop.mk [] [0, 3, 4, 5, 6] (fun m vs H => ∃ (k : Nat) (fb : Bool), k ≤ l.length ∧ m = l.length - k ∧ (fb = true ↔ firstB l i k) ∧ H = [] ∧ vs = [itemsA l, itemsA out, i64 i, .bool fb, i64 k]) rfl ?_ ?_
    · exact Canon.mk [] rfl ⟨l.length, 0, true, Nat.zero_le _, rfl, ⟨fun _ j y hj => by omega, fun _ => rfl⟩, rfl, rfl⟩
    rintro m vs H ⟨k, fb, hk, rfl, hfb, rfl, rfl⟩
    by_cases hkl : k < l.length
    · have hy := List.getElem?_eq_getElem hkl
      have h1 := less9_walk l[k] l[i]
      have step : ((l[k].dot = l[i].dot → ¬ ILt l[k] l[i] ∧ ¬ (l[k] = l[i] ∧ k < i)) → (fb = true ↔ firstB l i (k + 1))) ∧ (¬ (l[k].dot = l[i].dot → ¬ ILt l[k] l[i] ∧ ¬ (l[k] = l[i] ∧ k < i)) → (false = true ↔ firstB l i (k + 1))) := by
        constructor
        · intro hb
          rw [hfb]
          constructor
          · intro h j y hj hjy x hxx hd
            rcases Nat.lt_or_ge j k with h' | h'
            · exact h j y h' hjy x hxx hd
            · have : j = k := by omega
              subst this
              rw [hy] at hjy; rw [hx] at hxx
              cases hjy; cases hxx
              exact hb hd
          · intro h j y hj hjy
            exact h j y (by omega) hjy
        · intro hb
          refine ⟨fun h => by simp at h, fun h => absurd (fun hd => h k l[k] (by omega) hy l[i] hx hd) hb⟩
      by_cases hd : l[k].dot = l[i].dot
      · have d1 : l[k].dot.node = l[i].dot.node := by rw [hd]
        have d2 : l[k].dot.seq = l[i].dot.seq := by rw [hd]
        have d3 : l[k].dot.at' = l[i].dot.at' := by rw [hd]
        cases hp : ltI l[k] l[i] with
        | true =>
          rw [hp] at h1
          have st := step.2 fun h => (h hd).1 (of_decide_eq_true hp)
          refine ND.yes (by (simp only [List.length_map, List.length_append, List.length_replicate, List.length_cons, List.length_nil, List.length_take, List.length_drop]; omega)) ?_
          refine NP.mk (by kernel_rfl) ?_
          apply NDr.pure
          · exact ⟨rfl, rfl⟩
          apply NDr.pure
          · exact ⟨rfl, rfl⟩
          apply NDr.pure
          · refine NP.mk (by omega) ?_
            refine NG.mapN (by omega) ?_
            exact ⟨rfl, rfl⟩
          apply NDr.pure
          · exact ⟨rfl, rfl⟩
          apply NDr.pure
          · exact ⟨rfl, rfl⟩
          apply NDr.pure
          · exact ⟨rfl, rfl⟩
          apply NDr.pure
          · exact ⟨rfl, rfl⟩
          apply NDr.pure
          · refine NP.mk (by omega) ?_
            refine NG.mapN (by omega) ?_
            exact ⟨rfl, rfl⟩
          apply NDr.pure
          · exact ⟨rfl, rfl⟩
          apply NDr.pure
          · exact ⟨rfl, rfl⟩
          apply NDr.pure
          · refine ND.yes (by simp [*]) ?_
            exact ⟨rfl, rfl⟩
          apply NDr.pure
          · exact ⟨rfl, rfl⟩
          apply NDr.pure
          · exact ⟨rfl, rfl⟩
          apply NDr.pure
          · exact ⟨rfl, rfl⟩
          apply NDr.pure
          · refine NP.mk (by omega) ?_
            refine NG.mapN (by omega) ?_
            exact ⟨rfl, rfl⟩
          apply NDr.pure
          · exact ⟨rfl, rfl⟩
          apply NDr.pure
          · exact ⟨rfl, rfl⟩
          apply NDr.pure
          · exact ⟨rfl, rfl⟩
          apply NDr.pure
          · refine NP.mk (by omega) ?_
            refine NG.mapN (by omega) ?_
            exact ⟨rfl, rfl⟩
          apply NDr.pure
          · exact ⟨rfl, rfl⟩
          apply NDr.pure
          · refine NCall.call (h1) rfl rfl ?_
            exact ⟨rfl, rfl⟩
          apply NDr.pure
          · exact ⟨rfl, rfl⟩
          apply NDr.pure
          · exact ⟨rfl, rfl⟩
          apply NDr.pure
          · exact ⟨rfl, rfl⟩
          refine NP.mk (by kernel_rfl) ?_
          refine NW.i64 (by omega) (by omega) ?_
          exact Canon.mk [] rfl ⟨l.length - (k + 1), by omega, k + 1, false, by omega, rfl, st, rfl, rfl⟩
        | false =>
          rw [hp] at h1
          by_cases he : l[k] = l[i]
          · by_cases hki : k < i
            · have st := step.2 fun h => (h hd).2 ⟨he, hki⟩
              refine ND.yes (by (simp only [List.length_map, List.length_append, List.length_replicate, List.length_cons, List.length_nil, List.length_take, List.length_drop]; omega)) ?_
              refine NP.mk (by kernel_rfl) ?_
              apply NDr.pure
              · exact ⟨rfl, rfl⟩
              apply NDr.pure
              · exact ⟨rfl, rfl⟩
              apply NDr.pure
              · refine NP.mk (by omega) ?_
                refine NG.mapN (by omega) ?_
                exact ⟨rfl, rfl⟩
              apply NDr.pure
              · exact ⟨rfl, rfl⟩
              apply NDr.pure
              · exact ⟨rfl, rfl⟩
              apply NDr.pure
              · exact ⟨rfl, rfl⟩
              apply NDr.pure
              · exact ⟨rfl, rfl⟩
              apply NDr.pure
              · refine NP.mk (by omega) ?_
                refine NG.mapN (by omega) ?_
                exact ⟨rfl, rfl⟩
              apply NDr.pure
              · exact ⟨rfl, rfl⟩
              apply NDr.pure
              · exact ⟨rfl, rfl⟩
              apply NDr.pure
              · refine ND.yes (by simp [*]) ?_
                exact ⟨rfl, rfl⟩
              apply NDr.pure
              · exact ⟨rfl, rfl⟩
              apply NDr.pure
              · exact ⟨rfl, rfl⟩
              apply NDr.pure
              · exact ⟨rfl, rfl⟩
              apply NDr.pure
              · refine NP.mk (by omega) ?_
                refine NG.mapN (by omega) ?_
                exact ⟨rfl, rfl⟩
              apply NDr.pure
              · exact ⟨rfl, rfl⟩
              apply NDr.pure
              · exact ⟨rfl, rfl⟩
              apply NDr.pure
              · exact ⟨rfl, rfl⟩
              apply NDr.pure
              · refine NP.mk (by omega) ?_
                refine NG.mapN (by omega) ?_
                exact ⟨rfl, rfl⟩
              apply NDr.pure
              · exact ⟨rfl, rfl⟩
              apply NDr.pure
              · refine NCall.call (h1) rfl rfl ?_
                exact ⟨rfl, rfl⟩
              apply NDr.pure
              · exact ⟨rfl, rfl⟩
              apply NDr.pure
              · exact ⟨rfl, rfl⟩
              apply NDr.pure
              · exact ⟨rfl, rfl⟩
              apply NDr.pure
              · refine NP.mk (by omega) ?_
                refine NG.mapN (by omega) ?_
                exact ⟨rfl, rfl⟩
              apply NDr.pure
              · exact ⟨rfl, rfl⟩
              apply NDr.pure
              · exact ⟨rfl, rfl⟩
              apply NDr.pure
              · exact ⟨rfl, rfl⟩
              apply NDr.pure
              · refine NP.mk (by omega) ?_
                refine NG.mapN (by omega) ?_
                exact ⟨rfl, rfl⟩
              apply NDr.pure
              · exact ⟨rfl, rfl⟩
              apply NDr.pure
              · refine ND.yes (by simp [*]) ?_
                exact ⟨rfl, rfl⟩
              apply NDr.pure
              · exact ⟨rfl, rfl⟩
              apply NDr.pure
              · exact ⟨rfl, rfl⟩
              apply NDr.pure
              · exact ⟨rfl, rfl⟩
              apply NDr.pure
              · refine ND.yes (by omega) ?_
                exact ⟨rfl, rfl⟩
              apply NDr.pure
              · exact ⟨rfl, rfl⟩
              apply NDr.pure
              · exact ⟨rfl, rfl⟩
              apply NDr.pure
              · exact ⟨rfl, rfl⟩
              refine NP.mk (by kernel_rfl) ?_
              refine NW.i64 (by omega) (by omega) ?_
              exact Canon.mk [] rfl ⟨l.length - (k + 1), by omega, k + 1, false, by omega, rfl, st, rfl, rfl⟩
            · have st := step.1 fun _ => ⟨of_decide_eq_false hp, fun h => hki h.2⟩
              refine ND.yes (by (simp only [List.length_map, List.length_append, List.length_replicate, List.length_cons, List.length_nil, List.length_take, List.length_drop]; omega)) ?_
              refine NP.mk (by kernel_rfl) ?_
              apply NDr.pure
              · exact ⟨rfl, rfl⟩
              apply NDr.pure
              · exact ⟨rfl, rfl⟩
              apply NDr.pure
              · refine NP.mk (by omega) ?_
                refine NG.mapN (by omega) ?_
                exact ⟨rfl, rfl⟩
              apply NDr.pure
              · exact ⟨rfl, rfl⟩
              apply NDr.pure
              · exact ⟨rfl, rfl⟩
              apply NDr.pure
              · exact ⟨rfl, rfl⟩
              apply NDr.pure
              · exact ⟨rfl, rfl⟩
              apply NDr.pure
              · refine NP.mk (by omega) ?_
                refine NG.mapN (by omega) ?_
                exact ⟨rfl, rfl⟩
              apply NDr.pure
              · exact ⟨rfl, rfl⟩
              apply NDr.pure
              · exact ⟨rfl, rfl⟩
              apply NDr.pure
              · refine ND.yes (by simp [*]) ?_
                exact ⟨rfl, rfl⟩
              apply NDr.pure
              · exact ⟨rfl, rfl⟩
              apply NDr.pure
              · exact ⟨rfl, rfl⟩
              apply NDr.pure
              · exact ⟨rfl, rfl⟩
              apply NDr.pure
              · refine NP.mk (by omega) ?_
                refine NG.mapN (by omega) ?_
                exact ⟨rfl, rfl⟩
              apply NDr.pure
              · exact ⟨rfl, rfl⟩
              apply NDr.pure
              · exact ⟨rfl, rfl⟩
              apply NDr.pure
              · exact ⟨rfl, rfl⟩
              apply NDr.pure
              · refine NP.mk (by omega) ?_
                refine NG.mapN (by omega) ?_
                exact ⟨rfl, rfl⟩
              apply NDr.pure
              · exact ⟨rfl, rfl⟩
              apply NDr.pure
              · refine NCall.call (h1) rfl rfl ?_
                exact ⟨rfl, rfl⟩
              apply NDr.pure
              · exact ⟨rfl, rfl⟩
              apply NDr.pure
              · exact ⟨rfl, rfl⟩
              apply NDr.pure
              · exact ⟨rfl, rfl⟩
              apply NDr.pure
              · refine NP.mk (by omega) ?_
                refine NG.mapN (by omega) ?_
                exact ⟨rfl, rfl⟩
              apply NDr.pure
              · exact ⟨rfl, rfl⟩
              apply NDr.pure
              · exact ⟨rfl, rfl⟩
              apply NDr.pure
              · exact ⟨rfl, rfl⟩
              apply NDr.pure
              · refine NP.mk (by omega) ?_
                refine NG.mapN (by omega) ?_
                exact ⟨rfl, rfl⟩
              apply NDr.pure
              · exact ⟨rfl, rfl⟩
              apply NDr.pure
              · refine ND.yes (by simp [*]) ?_
                exact ⟨rfl, rfl⟩
              apply NDr.pure
              · exact ⟨rfl, rfl⟩
              apply NDr.pure
              · exact ⟨rfl, rfl⟩
              apply NDr.pure
              · exact ⟨rfl, rfl⟩
              apply NDr.pure
              · refine ND.no (by omega) ?_
                exact ⟨rfl, rfl⟩
              apply NDr.pure
              · exact ⟨rfl, rfl⟩
              apply NDr.pure
              · exact ⟨rfl, rfl⟩
              apply NDr.pure
              · exact ⟨rfl, rfl⟩
              refine NP.mk (by kernel_rfl) ?_
              refine NW.i64 (by omega) (by omega) ?_
              exact Canon.mk [] rfl ⟨l.length - (k + 1), by omega, k + 1, fb, by omega, rfl, st, rfl, rfl⟩
          · have st := step.1 fun _ => ⟨of_decide_eq_false hp, fun h => he h.1⟩
            have hne : ¬ (l[k].key = l[i].key ∧ l[k].field = l[i].field ∧ l[k].kind = l[i].kind ∧ l[k].elem = l[i].elem ∧ l[k].n = l[i].n ∧ l[k].dot.node = l[i].dot.node ∧ l[k].dot.seq = l[i].dot.seq ∧ l[k].dot.at' = l[i].dot.at') := fun h => he (Item.ext h.1 h.2.1 h.2.2.1 h.2.2.2.1 h.2.2.2.2.1 hd)
            have hq : ¬ ((decide (l[k].key = l[i].key) && (decide (l[k].field = l[i].field) && (decide (l[k].kind = l[i].kind) && (decide (l[k].elem = l[i].elem) && (decide (l[k].n = l[i].n) && (decide (l[k].dot.node = l[i].dot.node) && (decide (l[k].dot.seq = l[i].dot.seq) && (decide (l[k].dot.at' = l[i].dot.at') && true)))))))) = true) := fun h => by
              simp only [Bool.and_eq_true, decide_eq_true_eq, and_true] at h
              exact hne h
            refine ND.yes (by (simp only [List.length_map, List.length_append, List.length_replicate, List.length_cons, List.length_nil, List.length_take, List.length_drop]; omega)) ?_
            refine NP.mk (by kernel_rfl) ?_
            apply NDr.pure
            · exact ⟨rfl, rfl⟩
            apply NDr.pure
            · exact ⟨rfl, rfl⟩
            apply NDr.pure
            · refine NP.mk (by omega) ?_
              refine NG.mapN (by omega) ?_
              exact ⟨rfl, rfl⟩
            apply NDr.pure
            · exact ⟨rfl, rfl⟩
            apply NDr.pure
            · exact ⟨rfl, rfl⟩
            apply NDr.pure
            · exact ⟨rfl, rfl⟩
            apply NDr.pure
            · exact ⟨rfl, rfl⟩
            apply NDr.pure
            · refine NP.mk (by omega) ?_
              refine NG.mapN (by omega) ?_
              exact ⟨rfl, rfl⟩
            apply NDr.pure
            · exact ⟨rfl, rfl⟩
            apply NDr.pure
            · exact ⟨rfl, rfl⟩
            apply NDr.pure
            · refine ND.yes (by simp [*]) ?_
              exact ⟨rfl, rfl⟩
            apply NDr.pure
            · exact ⟨rfl, rfl⟩
            apply NDr.pure
            · exact ⟨rfl, rfl⟩
            apply NDr.pure
            · exact ⟨rfl, rfl⟩
            apply NDr.pure
            · refine NP.mk (by omega) ?_
              refine NG.mapN (by omega) ?_
              exact ⟨rfl, rfl⟩
            apply NDr.pure
            · exact ⟨rfl, rfl⟩
            apply NDr.pure
            · exact ⟨rfl, rfl⟩
            apply NDr.pure
            · exact ⟨rfl, rfl⟩
            apply NDr.pure
            · refine NP.mk (by omega) ?_
              refine NG.mapN (by omega) ?_
              exact ⟨rfl, rfl⟩
            apply NDr.pure
            · exact ⟨rfl, rfl⟩
            apply NDr.pure
            · refine NCall.call (h1) rfl rfl ?_
              exact ⟨rfl, rfl⟩
            apply NDr.pure
            · exact ⟨rfl, rfl⟩
            apply NDr.pure
            · exact ⟨rfl, rfl⟩
            apply NDr.pure
            · exact ⟨rfl, rfl⟩
            apply NDr.pure
            · refine NP.mk (by omega) ?_
              refine NG.mapN (by omega) ?_
              exact ⟨rfl, rfl⟩
            apply NDr.pure
            · exact ⟨rfl, rfl⟩
            apply NDr.pure
            · exact ⟨rfl, rfl⟩
            apply NDr.pure
            · exact ⟨rfl, rfl⟩
            apply NDr.pure
            · refine NP.mk (by omega) ?_
              refine NG.mapN (by omega) ?_
              exact ⟨rfl, rfl⟩
            apply NDr.pure
            · exact ⟨rfl, rfl⟩
            apply NDr.pure
            · refine ND.no (by assumption) ?_
              exact ⟨rfl, rfl⟩
            apply NDr.pure
            · exact ⟨rfl, rfl⟩
            apply NDr.pure
            · exact ⟨rfl, rfl⟩
            apply NDr.pure
            · exact ⟨rfl, rfl⟩
            apply NDr.pure
            · exact ⟨rfl, rfl⟩
            refine NP.mk (by kernel_rfl) ?_
            refine NW.i64 (by omega) (by omega) ?_
            exact Canon.mk [] rfl ⟨l.length - (k + 1), by omega, k + 1, fb, by omega, rfl, st, rfl, rfl⟩
      · have st := step.1 fun h => absurd h hd
        have dn : ¬ (l[k].dot.node = l[i].dot.node ∧ l[k].dot.seq = l[i].dot.seq ∧ l[k].dot.at' = l[i].dot.at') := fun h => hd (Dot.ext h.1 h.2.1 h.2.2)
        refine ND.yes (by (simp only [List.length_map, List.length_append, List.length_replicate, List.length_cons, List.length_nil, List.length_take, List.length_drop]; omega)) ?_
        refine NP.mk (by kernel_rfl) ?_
        apply NDr.pure
        · exact ⟨rfl, rfl⟩
        apply NDr.pure
        · exact ⟨rfl, rfl⟩
        apply NDr.pure
        · refine NP.mk (by omega) ?_
          refine NG.mapN (by omega) ?_
          exact ⟨rfl, rfl⟩
        apply NDr.pure
        · exact ⟨rfl, rfl⟩
        apply NDr.pure
        · exact ⟨rfl, rfl⟩
        apply NDr.pure
        · exact ⟨rfl, rfl⟩
        apply NDr.pure
        · exact ⟨rfl, rfl⟩
        apply NDr.pure
        · refine NP.mk (by omega) ?_
          refine NG.mapN (by omega) ?_
          exact ⟨rfl, rfl⟩
        apply NDr.pure
        · exact ⟨rfl, rfl⟩
        apply NDr.pure
        · exact ⟨rfl, rfl⟩
        apply NDr.pure
        · refine ND.no (by simp [*]) ?_
          exact ⟨rfl, rfl⟩
        apply NDr.pure
        · exact ⟨rfl, rfl⟩
        apply NDr.pure
        · exact ⟨rfl, rfl⟩
        refine NP.mk (by kernel_rfl) ?_
        refine NW.i64 (by omega) (by omega) ?_
        exact Canon.mk [] rfl ⟨l.length - (k + 1), by omega, k + 1, fb, by omega, rfl, st, rfl, rfl⟩
    · have : k = l.length := by omega
      subst this
      have hfa : firstB l i l.length ↔ firstAt l i l[i] := by
        constructor
        · intro h k y hy hd
          exact h k y (List.getElem?_eq_some_iff.1 hy).1 hy l[i] hx hd
        · intro h j y _ hy x hxx hd
          rw [hx] at hxx; cases hxx
          exact h j y hy hd
      rw [hfa] at hfb
      have h2 := put9_walk out l[i] (by omega)
      have hpl := (putI_perm out l[i]).length_eq
      rw [List.length_cons] at hpl
      cases fb with
      | true =>
        have st := laid_put hL hx (hfb.1 rfl)
        refine ND.no (by (simp only [List.length_map, List.length_append, List.length_replicate, List.length_cons, List.length_nil, List.length_take, List.length_drop]; omega)) ?_
        refine NP.mk (by omega) ?_
        refine NG.mapN (by omega) ?_
        refine NCall.call (h2) rfl rfl ?_
        refine NW.i64 (by omega) (by omega) ?_
        exact Canon.mk [] rfl ⟨l.length - (i + 1), by omega, i + 1, putI out l[i], by omega, rfl, by omega, st, rfl, rfl⟩
      | false =>
        have st := laid_skip hL hx (fun h => by have := hfb.2 h; simp at this)
        refine ND.no (by (simp only [List.length_map, List.length_append, List.length_replicate, List.length_cons, List.length_nil, List.length_take, List.length_drop]; omega)) ?_
        refine NW.i64 (by omega) (by omega) ?_
        exact Canon.mk [] rfl ⟨l.length - (i + 1), by omega, i + 1, out, by omega, rfl, by omega, st, rfl, rfl⟩
  · have : i = l.length := by omega
    subst this
    rw [← laid_end hL]
    refine ND.no (by (simp only [List.length_map, List.length_append, List.length_replicate, List.length_cons, List.length_nil, List.length_take, List.length_drop]; omega)) ?_
    exact NRet.mk [] rfl ⟨.refl _, rfl⟩
end Go.Bv
namespace Go.Bv
set_option linter.unusedSimpArgs false
set_option linter.unusedVariables false
set_option maxHeartbeats 4000000
set_option maxRecDepth 20000
open Go Go.Proofs
def keyBad (node seq : Int) (hv : List Item) (l : List Eff) (i : Nat) (e : Eff) : Prop := (∃ x ∈ hv, x.dot ∈ e.drops ∧ x.key ≠ e.key) ∨ ∃ (k : Nat) (h : k < l.length), k < i ∧ (⟨node, seq, l[k].at'⟩ : Dot) ∈ e.drops ∧ l[k].key ≠ e.key
theorem effOnlyL_walk (items : List Item) (node seq : Int) (l : List Eff) (z : List (List UInt8)) (hi0 : items.length ≤ reachBytes) (hix : ∀ e ∈ items, okItem e) (hl0 : l.length ≤ reachBytes) (hlx : ∀ e ∈ l, okEff e) (hz0 : z.length ≤ reachBytes) (hzx : ∀ e ∈ z, e.length ≤ reachBytes) :
    ACalls Try.prog Nm.law10_EffOnly [itemsA items, i64 node, i64 seq, effsA l, strsA z] [] (.bool true) [] := by
  refine ACalls_of tab (dr_snd tab mixed) Nm.law10_EffOnly_h rfl (by kernel_rfl) (Nat.le_of_ble_eq_true rfl) rfl ?_
  have hi' := reach_lt hi0
  have hl' := reach_lt hl0
  have hz' := reach_lt hz0
  have s1 := short10_walk l (by omega) hlx
  have s2 := short9_walk items (by omega) hix
  have s3 := short8_walk z (by omega) hzx
  cases h1 : shortEs l with
  | false =>
    rw [h1] at s1
    refine NCall.call (awake10) rfl rfl ?_
    refine NCall.call (s1) rfl rfl ?_
    exact NRet.mk [] rfl ⟨.refl _, rfl⟩
  | true =>
  rw [h1] at s1
  obtain ⟨l1, l2⟩ := shortEs_sm h1
  cases h2 : shortIs items with
  | false =>
    rw [h2] at s2
    refine NCall.call (awake10) rfl rfl ?_
    refine NCall.call (s1) rfl rfl ?_
    refine NCall.call (s2) rfl rfl ?_
    exact NRet.mk [] rfl ⟨.refl _, rfl⟩
  | true =>
  rw [h2] at s2
  obtain ⟨i1, i2⟩ := shortIs_sm h2
  cases h3 : (decide (z.length ≤ 60) && z.all fun e => decide (e.length ≤ 200)) with
  | false =>
    rw [h3] at s3
    refine NCall.call (awake10) rfl rfl ?_
    refine NCall.call (s1) rfl rfl ?_
    refine NCall.call (s2) rfl rfl ?_
    refine NCall.call (s3) rfl rfl ?_
    exact NRet.mk [] rfl ⟨.refl _, rfl⟩
  | true =>
  rw [h3] at s3
  rw [Bool.and_eq_true] at h3
  have h3 := of_decide_eq_true h3.1
  have s4 := right_walk node seq l (by omega) l2
  cases h4 : effsOk node seq l with
  | false =>
    rw [h4] at s4
    refine NCall.call (awake10) rfl rfl ?_
    refine NCall.call (s1) rfl rfl ?_
    refine NCall.call (s2) rfl rfl ?_
    refine NCall.call (s3) rfl rfl ?_
    refine NCall.call (s4) rfl rfl ?_
    exact NRet.mk [] rfl ⟨.refl _, rfl⟩
  | true =>
  rw [h4] at s4
  have s5 := hasL_walk items node seq (by omega)
  cases h5 : hasI items node seq with
  | true =>
    rw [h5] at s5
    refine NCall.call (awake10) rfl rfl ?_
    refine NCall.call (s1) rfl rfl ?_
    refine NCall.call (s2) rfl rfl ?_
    refine NCall.call (s3) rfl rfl ?_
    refine NCall.call (s4) rfl rfl ?_
    refine NCall.call (s5) rfl rfl ?_
    exact NRet.mk [] rfl ⟨.refl _, rfl⟩
  | false =>
  rw [h5] at s5
  by_cases h6 : l.length = 0
  · refine NCall.call (awake10) rfl rfl ?_
    refine NCall.call (s1) rfl rfl ?_
    refine NCall.call (s2) rfl rfl ?_
    refine NCall.call (s3) rfl rfl ?_
    refine NCall.call (s4) rfl rfl ?_
    refine NCall.call (s5) rfl rfl ?_
    refine ND.yes (by (simp only [List.length_map, List.length_append, List.length_replicate, List.length_cons, List.length_nil, List.length_take, List.length_drop]; omega)) ?_
    exact NRet.mk [] rfl ⟨.refl _, rfl⟩
  have k1 := norm9_walk items (by omega)
  have hvl := norm_len items
  have hvm : ∀ x ∈ norm items, x ∈ items := fun x hx => norm_mem hx
  have hvn := norm_idem items
  refine NCall.call (awake10) rfl rfl ?_
  refine NCall.call (s1) rfl rfl ?_
  refine NCall.call (s2) rfl rfl ?_
  refine NCall.call (s3) rfl rfl ?_
  refine NCall.call (s4) rfl rfl ?_
  refine NCall.call (s5) rfl rfl ?_
  refine ND.no (by (simp only [List.length_map, List.length_append, List.length_replicate, List.length_cons, List.length_nil, List.length_take, List.length_drop]; omega)) ?_
  refine NCall.call (k1) rfl rfl ?_
  generalize norm items = hv at *
  refine NLoop.mk [] [1, 2, 3, 4, 11, 12] (fun m vs H => ∃ i, i ≤ l.length ∧ m = l.length - i ∧ (∀ (j : Nat) (h : j < l.length), j < i → ¬ keyBad node seq hv l j l[j]) ∧ H = [] ∧ vs = [i64 node, i64 seq, effsA l, strsA z, itemsA hv, i64 i]) rfl ?_ ?_
  · exact Canon.mk [] rfl ⟨l.length, 0, Nat.zero_le _, rfl, fun j h hj => by omega, rfl, rfl⟩
  rintro m vs H ⟨i, hi, rfl, hb, rfl, rfl⟩
  by_cases hil : i < l.length
  · have hdl := (l2 _ (List.getElem_mem hil)).2.2.2
    refine ND.yes (by (simp only [List.length_map, List.length_append, List.length_replicate, List.length_cons, List.length_nil, List.length_take, List.length_drop]; omega)) ?_
    refine NLoop.mk [] [1, 2, 3, 4, 11, 12, 13] (fun m vs H => ∃ k, k ≤ hv.length ∧ m = hv.length - k ∧ (∀ x ∈ hv.take k, decide (x.dot ∈ l[i].drops ∧ x.key ≠ l[i].key) = false) ∧ H = [] ∧ vs = [i64 node, i64 seq, effsA l, strsA z, itemsA hv, i64 i, i64 k]) rfl ?_ ?_
    · exact Canon.mk [] rfl ⟨hv.length, 0, Nat.zero_le _, rfl, by simp, rfl, rfl⟩
    rintro m vs H ⟨k, hk, rfl, ht, rfl, rfl⟩
    by_cases hkl : k < hv.length
    · obtain ⟨f1, f2⟩ := find_step (p := fun x : Item => decide (x.dot ∈ l[i].drops ∧ x.key ≠ l[i].key)) hkl ht
      have c1 := is9_walk l[i].drops hv[k].dot hdl
      by_cases hm : hv[k].dot ∈ l[i].drops
      · rw [decide_eq_true hm] at c1
        by_cases hke : hv[k].key = l[i].key
        · have f2 := f2 (decide_eq_false fun h => h.2 hke)
          refine ND.yes (by (simp only [List.length_map, List.length_append, List.length_replicate, List.length_cons, List.length_nil, List.length_take, List.length_drop]; omega)) ?_
          refine NP.mk (by kernel_rfl) ?_
          apply NDr.pure
          · exact ⟨rfl, rfl⟩
          apply NDr.pure
          · exact ⟨rfl, rfl⟩
          apply NDr.pure
          · refine NP.mk (by omega) ?_
            refine NG.mapN (by omega) ?_
            exact ⟨rfl, rfl⟩
          apply NDr.pure
          · exact ⟨rfl, rfl⟩
          apply NDr.pure
          · exact ⟨rfl, rfl⟩
          apply NDr.pure
          · exact ⟨rfl, rfl⟩
          apply NDr.pure
          · exact ⟨rfl, rfl⟩
          apply NDr.pure
          · refine NP.mk (by omega) ?_
            refine NG.mapN (by omega) ?_
            exact ⟨rfl, rfl⟩
          apply NDr.pure
          · exact ⟨rfl, rfl⟩
          apply NDr.pure
          · exact ⟨rfl, rfl⟩
          apply NDr.pure
          · refine NCall.call (c1) rfl rfl ?_
            exact ⟨rfl, rfl⟩
          apply NDr.pure
          · exact ⟨rfl, rfl⟩
          apply NDr.pure
          · exact ⟨rfl, rfl⟩
          apply NDr.pure
          · exact ⟨rfl, rfl⟩
          apply NDr.pure
          · refine NP.mk (by omega) ?_
            refine NG.mapN (by omega) ?_
            exact ⟨rfl, rfl⟩
          apply NDr.pure
          · exact ⟨rfl, rfl⟩
          apply NDr.pure
          · exact ⟨rfl, rfl⟩
          apply NDr.pure
          · exact ⟨rfl, rfl⟩
          apply NDr.pure
          · exact ⟨rfl, rfl⟩
          apply NDr.pure
          · refine NP.mk (by omega) ?_
            refine NG.mapN (by omega) ?_
            exact ⟨rfl, rfl⟩
          apply NDr.pure
          · exact ⟨rfl, rfl⟩
          apply NDr.pure
          · exact ⟨rfl, rfl⟩
          apply NDr.pure
          · refine ND.yes (by omega) ?_
            exact ⟨rfl, rfl⟩
          apply NDr.pure
          · exact ⟨rfl, rfl⟩
          refine NP.mk (by kernel_rfl) ?_
          refine NW.i64 (by omega) (by omega) ?_
          exact Canon.mk [] rfl ⟨hv.length - (k + 1), by omega, k + 1, by omega, rfl, f2, rfl, rfl⟩
        · refine ND.yes (by (simp only [List.length_map, List.length_append, List.length_replicate, List.length_cons, List.length_nil, List.length_take, List.length_drop]; omega)) ?_
          refine NP.mk (by kernel_rfl) ?_
          apply NDr.pure
          · exact ⟨rfl, rfl⟩
          apply NDr.pure
          · exact ⟨rfl, rfl⟩
          apply NDr.pure
          · refine NP.mk (by omega) ?_
            refine NG.mapN (by omega) ?_
            exact ⟨rfl, rfl⟩
          apply NDr.pure
          · exact ⟨rfl, rfl⟩
          apply NDr.pure
          · exact ⟨rfl, rfl⟩
          apply NDr.pure
          · exact ⟨rfl, rfl⟩
          apply NDr.pure
          · exact ⟨rfl, rfl⟩
          apply NDr.pure
          · refine NP.mk (by omega) ?_
            refine NG.mapN (by omega) ?_
            exact ⟨rfl, rfl⟩
          apply NDr.pure
          · exact ⟨rfl, rfl⟩
          apply NDr.pure
          · exact ⟨rfl, rfl⟩
          apply NDr.pure
          · refine NCall.call (c1) rfl rfl ?_
            exact ⟨rfl, rfl⟩
          apply NDr.pure
          · exact ⟨rfl, rfl⟩
          apply NDr.pure
          · exact ⟨rfl, rfl⟩
          apply NDr.pure
          · exact ⟨rfl, rfl⟩
          apply NDr.pure
          · refine NP.mk (by omega) ?_
            refine NG.mapN (by omega) ?_
            exact ⟨rfl, rfl⟩
          apply NDr.pure
          · exact ⟨rfl, rfl⟩
          apply NDr.pure
          · exact ⟨rfl, rfl⟩
          apply NDr.pure
          · exact ⟨rfl, rfl⟩
          apply NDr.pure
          · exact ⟨rfl, rfl⟩
          apply NDr.pure
          · refine NP.mk (by omega) ?_
            refine NG.mapN (by omega) ?_
            exact ⟨rfl, rfl⟩
          apply NDr.pure
          · exact ⟨rfl, rfl⟩
          apply NDr.pure
          · exact ⟨rfl, rfl⟩
          apply NDr.pure
          · refine ND.no (by omega) ?_
            exact ⟨rfl, rfl⟩
          apply NDr.pure
          · exact ⟨rfl, rfl⟩
          refine NP.mk (by kernel_rfl) ?_
          exact NRet.mk [] rfl ⟨.refl _, rfl⟩
      · rw [decide_eq_false hm] at c1
        have f2 := f2 (decide_eq_false fun h => hm h.1)
        refine ND.yes (by (simp only [List.length_map, List.length_append, List.length_replicate, List.length_cons, List.length_nil, List.length_take, List.length_drop]; omega)) ?_
        refine NP.mk (by kernel_rfl) ?_
        apply NDr.pure
        · exact ⟨rfl, rfl⟩
        apply NDr.pure
        · exact ⟨rfl, rfl⟩
        apply NDr.pure
        · refine NP.mk (by omega) ?_
          refine NG.mapN (by omega) ?_
          exact ⟨rfl, rfl⟩
        apply NDr.pure
        · exact ⟨rfl, rfl⟩
        apply NDr.pure
        · exact ⟨rfl, rfl⟩
        apply NDr.pure
        · exact ⟨rfl, rfl⟩
        apply NDr.pure
        · exact ⟨rfl, rfl⟩
        apply NDr.pure
        · refine NP.mk (by omega) ?_
          refine NG.mapN (by omega) ?_
          exact ⟨rfl, rfl⟩
        apply NDr.pure
        · exact ⟨rfl, rfl⟩
        apply NDr.pure
        · exact ⟨rfl, rfl⟩
        apply NDr.pure
        · refine NCall.call (c1) rfl rfl ?_
          exact ⟨rfl, rfl⟩
        apply NDr.pure
        · exact ⟨rfl, rfl⟩
        apply NDr.pure
        · exact ⟨rfl, rfl⟩
        refine NP.mk (by kernel_rfl) ?_
        refine NW.i64 (by omega) (by omega) ?_
        exact Canon.mk [] rfl ⟨hv.length - (k + 1), by omega, k + 1, by omega, rfl, f2, rfl, rfl⟩
    have : k = hv.length := by omega
    subst this
    rw [List.take_length] at ht
    refine ND.no (by (simp only [List.length_map, List.length_append, List.length_replicate, List.length_cons, List.length_nil, List.length_take, List.length_drop]; omega)) ?_
    refine NLoop.mk [] [1, 2, 3, 4, 11, 12, 14] (fun m vs H => ∃ k, k ≤ i ∧ m = i - k ∧ (∀ x ∈ l.take k, decide ((⟨node, seq, x.at'⟩ : Dot) ∈ l[i].drops ∧ x.key ≠ l[i].key) = false) ∧ H = [] ∧ vs = [i64 node, i64 seq, effsA l, strsA z, itemsA hv, i64 i, i64 k]) rfl ?_ ?_
    · exact Canon.mk [] rfl ⟨i, 0, Nat.zero_le _, rfl, by simp, rfl, rfl⟩
    rintro m vs H ⟨k, hk, rfl, hu, rfl, rfl⟩
    by_cases hki : k < i
    · have hkl : k < l.length := by omega
      obtain ⟨f1, f2⟩ := find_step (p := fun x : Eff => decide ((⟨node, seq, x.at'⟩ : Dot) ∈ l[i].drops ∧ x.key ≠ l[i].key)) hkl hu
      have c1 := is9_walk l[i].drops ⟨node, seq, l[k].at'⟩ hdl
      by_cases hm : (⟨node, seq, l[k].at'⟩ : Dot) ∈ l[i].drops
      · rw [decide_eq_true hm] at c1
        by_cases hke : l[k].key = l[i].key
        · have f2 := f2 (decide_eq_false fun h => h.2 hke)
          refine ND.yes (by omega) ?_
          refine NP.mk (by kernel_rfl) ?_
          apply NDr.pure
          · exact ⟨rfl, rfl⟩
          apply NDr.pure
          · exact ⟨rfl, rfl⟩
          apply NDr.pure
          · refine NP.mk (by omega) ?_
            refine NG.mapN (by omega) ?_
            exact ⟨rfl, rfl⟩
          apply NDr.pure
          · exact ⟨rfl, rfl⟩
          apply NDr.pure
          · exact ⟨rfl, rfl⟩
          apply NDr.pure
          · exact ⟨rfl, rfl⟩
          apply NDr.pure
          · exact ⟨rfl, rfl⟩
          apply NDr.pure
          · exact ⟨rfl, rfl⟩
          apply NDr.pure
          · exact ⟨rfl, rfl⟩
          apply NDr.pure
          · refine NP.mk (by omega) ?_
            refine NG.mapN (by omega) ?_
            exact ⟨rfl, rfl⟩
          apply NDr.pure
          · exact ⟨rfl, rfl⟩
          apply NDr.pure
          · exact ⟨rfl, rfl⟩
          apply NDr.pure
          · exact ⟨rfl, rfl⟩
          apply NDr.pure
          · refine NCall.call (c1) rfl rfl ?_
            exact ⟨rfl, rfl⟩
          apply NDr.pure
          · exact ⟨rfl, rfl⟩
          apply NDr.pure
          · exact ⟨rfl, rfl⟩
          apply NDr.pure
          · exact ⟨rfl, rfl⟩
          apply NDr.pure
          · refine NP.mk (by omega) ?_
            refine NG.mapN (by omega) ?_
            exact ⟨rfl, rfl⟩
          apply NDr.pure
          · exact ⟨rfl, rfl⟩
          apply NDr.pure
          · exact ⟨rfl, rfl⟩
          apply NDr.pure
          · exact ⟨rfl, rfl⟩
          apply NDr.pure
          · exact ⟨rfl, rfl⟩
          apply NDr.pure
          · refine NP.mk (by omega) ?_
            refine NG.mapN (by omega) ?_
            exact ⟨rfl, rfl⟩
          apply NDr.pure
          · exact ⟨rfl, rfl⟩
          apply NDr.pure
          · exact ⟨rfl, rfl⟩
          apply NDr.pure
          · refine ND.yes (by omega) ?_
            exact ⟨rfl, rfl⟩
          apply NDr.pure
          · exact ⟨rfl, rfl⟩
          refine NP.mk (by kernel_rfl) ?_
          refine NW.i64 (by omega) (by omega) ?_
          exact Canon.mk [] rfl ⟨i - (k + 1), by omega, k + 1, by omega, rfl, f2, rfl, rfl⟩
        · refine ND.yes (by omega) ?_
          refine NP.mk (by kernel_rfl) ?_
          apply NDr.pure
          · exact ⟨rfl, rfl⟩
          apply NDr.pure
          · exact ⟨rfl, rfl⟩
          apply NDr.pure
          · refine NP.mk (by omega) ?_
            refine NG.mapN (by omega) ?_
            exact ⟨rfl, rfl⟩
          apply NDr.pure
          · exact ⟨rfl, rfl⟩
          apply NDr.pure
          · exact ⟨rfl, rfl⟩
          apply NDr.pure
          · exact ⟨rfl, rfl⟩
          apply NDr.pure
          · exact ⟨rfl, rfl⟩
          apply NDr.pure
          · exact ⟨rfl, rfl⟩
          apply NDr.pure
          · exact ⟨rfl, rfl⟩
          apply NDr.pure
          · refine NP.mk (by omega) ?_
            refine NG.mapN (by omega) ?_
            exact ⟨rfl, rfl⟩
          apply NDr.pure
          · exact ⟨rfl, rfl⟩
          apply NDr.pure
          · exact ⟨rfl, rfl⟩
          apply NDr.pure
          · exact ⟨rfl, rfl⟩
          apply NDr.pure
          · refine NCall.call (c1) rfl rfl ?_
            exact ⟨rfl, rfl⟩
          apply NDr.pure
          · exact ⟨rfl, rfl⟩
          apply NDr.pure
          · exact ⟨rfl, rfl⟩
          apply NDr.pure
          · exact ⟨rfl, rfl⟩
          apply NDr.pure
          · refine NP.mk (by omega) ?_
            refine NG.mapN (by omega) ?_
            exact ⟨rfl, rfl⟩
          apply NDr.pure
          · exact ⟨rfl, rfl⟩
          apply NDr.pure
          · exact ⟨rfl, rfl⟩
          apply NDr.pure
          · exact ⟨rfl, rfl⟩
          apply NDr.pure
          · exact ⟨rfl, rfl⟩
          apply NDr.pure
          · refine NP.mk (by omega) ?_
            refine NG.mapN (by omega) ?_
            exact ⟨rfl, rfl⟩
          apply NDr.pure
          · exact ⟨rfl, rfl⟩
          apply NDr.pure
          · exact ⟨rfl, rfl⟩
          apply NDr.pure
          · refine ND.no (by omega) ?_
            exact ⟨rfl, rfl⟩
          apply NDr.pure
          · exact ⟨rfl, rfl⟩
          refine NP.mk (by kernel_rfl) ?_
          exact NRet.mk [] rfl ⟨.refl _, rfl⟩
      · rw [decide_eq_false hm] at c1
        have f2 := f2 (decide_eq_false fun h => hm h.1)
        refine ND.yes (by omega) ?_
        refine NP.mk (by kernel_rfl) ?_
        apply NDr.pure
        · exact ⟨rfl, rfl⟩
        apply NDr.pure
        · exact ⟨rfl, rfl⟩
        apply NDr.pure
        · refine NP.mk (by omega) ?_
          refine NG.mapN (by omega) ?_
          exact ⟨rfl, rfl⟩
        apply NDr.pure
        · exact ⟨rfl, rfl⟩
        apply NDr.pure
        · exact ⟨rfl, rfl⟩
        apply NDr.pure
        · exact ⟨rfl, rfl⟩
        apply NDr.pure
        · exact ⟨rfl, rfl⟩
        apply NDr.pure
        · exact ⟨rfl, rfl⟩
        apply NDr.pure
        · exact ⟨rfl, rfl⟩
        apply NDr.pure
        · refine NP.mk (by omega) ?_
          refine NG.mapN (by omega) ?_
          exact ⟨rfl, rfl⟩
        apply NDr.pure
        · exact ⟨rfl, rfl⟩
        apply NDr.pure
        · exact ⟨rfl, rfl⟩
        apply NDr.pure
        · exact ⟨rfl, rfl⟩
        apply NDr.pure
        · refine NCall.call (c1) rfl rfl ?_
          exact ⟨rfl, rfl⟩
        apply NDr.pure
        · exact ⟨rfl, rfl⟩
        apply NDr.pure
        · exact ⟨rfl, rfl⟩
        refine NP.mk (by kernel_rfl) ?_
        refine NW.i64 (by omega) (by omega) ?_
        exact Canon.mk [] rfl ⟨i - (k + 1), by omega, k + 1, by omega, rfl, f2, rfl, rfl⟩
    have : k = i := by omega
    subst this
    have hnb : ¬ keyBad node seq hv l k l[k] := by
      rintro (⟨x, hx, h1, h2⟩ | ⟨j, hj, hjk, h1, h2⟩)
      · have := of_decide_eq_false (ht x hx)
        exact this ⟨h1, h2⟩
      · have := of_decide_eq_false (hu l[j] (List.mem_take_iff_getElem.2 ⟨j, by omega, rfl⟩))
        exact this ⟨h1, h2⟩
    refine ND.no (by omega) ?_
    refine NW.i64 (by omega) (by omega) ?_
    exact Canon.mk [] rfl ⟨l.length - (k + 1), by omega, k + 1, by omega, rfl, fun j hj hjk => by
      rcases Nat.lt_or_ge j k with h | h
      · exact hb j hj h
      · have : j = k := by omega
        subst this; exact hnb, rfl, rfl⟩
  have : i = l.length := by omega
  subst this
  have hh : hasI hv node seq = false := List.any_eq_false.2 fun x hx => by
    have := List.any_eq_false.1 h5 x (hvm x hx)
    exact this
  have hkk : ∀ e ∈ l, ∀ x ∈ hv, x.dot ∈ e.drops → x.key = e.key := fun e he x hx hd => by
    obtain ⟨j, hj, rfl⟩ := List.getElem_of_mem he
    exact Decidable.byContradiction fun hne => hb j hj hj (.inl ⟨x, hx, hd, hne⟩)
  have hok : ownKeys node seq l := ownKeys_pw (List.pairwise_iff_getElem.2 fun a b ha hb' hab hd => Decidable.byContradiction fun hne => hb b hb' hb' (.inr ⟨a, ha, hab, hd, hne⟩))
  have hmain := do_under (p := fun k => z.any (begins k)) hvn hh (ats_of h4) hok hkk (fun h => h6 (by rw [h]; rfl))
  rw [show keysI l (fun k => z.any (begins k)) = effsOnly l z from rfl] at hmain
  have hsm : ∀ x ∈ hv, smItem x := fun x hx => i2 x (hvm x hx)
  have d1 := doL_len (n := node) (s := seq) l hv
  have hmade : ∀ x ∈ doL node seq hv l, smItem x := fun x hx => by
    have hne : l ≠ [] := fun h => h6 (by rw [h]; rfl)
    rw [doL_raw hne] at hx
    rcases (mem_rawL l hv x).1 (norm_mem hx) with ⟨hx, _⟩ | hx
    · exact hsm x hx
    · obtain ⟨e, he, _, rfl⟩ := madeBy_ex hx
      exact smMade (l2 e he)
  have g1 := do_walk hv node seq l (by omega) (by omega) l2
  have g2 := under9_walk (doL node seq hv l) z (by omega) (by omega) hmade
  have g3 := under9_walk hv z (by omega) (by omega) hsm
  have g4 := effOnly_walk l z (by omega) (by omega) l2
  have hul : (underI hv fun k => z.any (begins k)).length ≤ hv.length := List.length_filter_le _ _
  have hel : (effsOnly l z).length ≤ l.length := (effsOnly_sub l z).length_le
  have g5 := do_walk (underI hv fun k => z.any (begins k)) node seq (effsOnly l z) (by omega) (by omega) (fun e he => l2 e ((effsOnly_sub l z).subset he))
  rw [← hmain] at g5
  have hol : (underI (doL node seq hv l) fun k => z.any (begins k)).length ≤ (doL node seq hv l).length := List.length_filter_le _ _
  have g6 := sameI_self (underI (doL node seq hv l) fun k => z.any (begins k)) (by omega)
  clear hmain hmade hb hkk hok
  generalize underI (doL node seq hv l) (fun k => z.any (begins k)) = o1 at *
  generalize doL node seq hv l = o2 at *
  generalize underI hv (fun k => z.any (begins k)) = o3 at *
  generalize effsOnly l z = o4 at *
  refine ND.no (by (simp only [List.length_map, List.length_append, List.length_replicate, List.length_cons, List.length_nil, List.length_take, List.length_drop]; omega)) ?_
  refine NCall.call (g1) rfl rfl ?_
  refine NCall.call (g3) rfl rfl ?_
  refine NCall.call (g4) rfl rfl ?_
  refine NCall.call (g5) rfl rfl ?_
  refine NCall.call (g2) rfl rfl ?_
  refine NCall.call (g6) rfl rfl ?_
  exact NRet.mk [] rfl ⟨.refl _, rfl⟩
end Go.Bv
namespace Go.Bv
open Go Go.Proofs
theorem ty_Dot {n : Nat} {xs : List AV} (h : TyC Try.prog n 47 xs) : ∃ a : Dot, xs = dotC a ∧ okDot a := by
  obtain ⟨hl, hf⟩ := ty_struct h Try.underlying47
  have c3 : Try.prog.cellsOf 3 = 1 := by kernel_rfl
  have c47 : Try.prog.cellsOf 47 = 3 := by kernel_rfl
  rw [c47] at hl
  have h0 := hf _ (List.mem_cons_self ..)
  dsimp only at h0
  rw [c3] at h0
  obtain ⟨a0, e0, g0⟩ := ty_i64 h0 Try.underlying3
  have e0 := drop_more e0 rfl
  have h1 := hf _ (List.mem_cons_of_mem _ (List.mem_cons_self ..))
  dsimp only at h1
  rw [c3] at h1
  obtain ⟨a1, e1, g1⟩ := ty_i64 h1 Try.underlying3
  have e1 := drop_more e1 rfl
  have h2 := hf _ (List.mem_cons_of_mem _ (List.mem_cons_of_mem _ (List.mem_cons_self ..)))
  dsimp only at h2
  rw [c3] at h2
  obtain ⟨a2, e2, g2⟩ := ty_i64 h2 Try.underlying3
  have e2 := drop_more e2 rfl
  rw [drop_all' hl] at e2
  rw [e2] at e1
  rw [e1] at e0
  exact ⟨⟨a0, a1, a2⟩, by rw [List.drop_zero] at e0; rw [e0]; rfl, g0, g1, g2⟩
theorem ty_LDot {n : Nat} {xs : List AV} (h : TyC Try.prog n 64 xs) : ∃ a : List (Dot), xs = [.list (.agg 3) (a.map dotA)] ∧ (a.length ≤ reachBytes ∧ ∀ y ∈ a, okDot y) := by
  obtain ⟨l, rfl, hl, hx⟩ := ty_slice h Try.underlying64
  have hs : shOf Try.prog 47 = .agg 3 := by rw [shOf_struct Try.underlying47, show Try.prog.cellsOf 47 = 3 by kernel_rfl]
  have hb : 1 ≤ Try.prog.bytesOf 47 := Nat.le_of_ble_eq_true (by kernel_rfl)
  rw [hs] at hx ⊢
  have : ∀ x ∈ l, ∃ a : Dot, x = dotA a ∧ okDot a := by
    intro x hxl
    obtain ⟨ys, hy, rfl⟩ := hx x hxl
    obtain ⟨a, e1, g1⟩ := ty_Dot hy
    exact ⟨a, by rw [e1]; rfl, g1⟩
  obtain ⟨a, rfl, ha⟩ := list_of' this
  exact ⟨a, rfl, Nat.le_trans (by simpa using Nat.le_mul_of_pos_right (a.map dotA).length hb) hl, ha⟩
theorem ty_Eff {n : Nat} {xs : List AV} (h : TyC Try.prog n 66 xs) : ∃ a : Eff, xs = effC a ∧ okEff a := by
  obtain ⟨hl, hf⟩ := ty_struct h Try.underlying66
  have c3 : Try.prog.cellsOf 3 = 1 := by kernel_rfl
  have c9 : Try.prog.cellsOf 9 = 1 := by kernel_rfl
  have c2 : Try.prog.cellsOf 2 = 1 := by kernel_rfl
  have c64 : Try.prog.cellsOf 64 = 1 := by kernel_rfl
  have c66 : Try.prog.cellsOf 66 = 7 := by kernel_rfl
  rw [c66] at hl
  have h0 := hf _ (List.mem_cons_self ..)
  dsimp only at h0
  rw [c3] at h0
  obtain ⟨a0, e0, g0⟩ := ty_i64 h0 Try.underlying3
  have e0 := drop_more e0 rfl
  have h1 := hf _ (List.mem_cons_of_mem _ (List.mem_cons_self ..))
  dsimp only at h1
  rw [c9] at h1
  obtain ⟨a1, e1, g1⟩ := ty_str h1 Try.underlying9
  have e1 := drop_more e1 rfl
  have h2 := hf _ (List.mem_cons_of_mem _ (List.mem_cons_of_mem _ (List.mem_cons_self ..)))
  dsimp only at h2
  rw [c9] at h2
  obtain ⟨a2, e2, g2⟩ := ty_str h2 Try.underlying9
  have e2 := drop_more e2 rfl
  have h3 := hf _ (List.mem_cons_of_mem _ (List.mem_cons_of_mem _ (List.mem_cons_of_mem _ (List.mem_cons_self ..))))
  dsimp only at h3
  rw [c3] at h3
  obtain ⟨a3, e3, g3⟩ := ty_i64 h3 Try.underlying3
  have e3 := drop_more e3 rfl
  have h4 := hf _ (List.mem_cons_of_mem _ (List.mem_cons_of_mem _ (List.mem_cons_of_mem _ (List.mem_cons_of_mem _ (List.mem_cons_self ..)))))
  dsimp only at h4
  rw [c9] at h4
  obtain ⟨a4, e4, g4⟩ := ty_str h4 Try.underlying9
  have e4 := drop_more e4 rfl
  have h5 := hf _ (List.mem_cons_of_mem _ (List.mem_cons_of_mem _ (List.mem_cons_of_mem _ (List.mem_cons_of_mem _ (List.mem_cons_of_mem _ (List.mem_cons_self ..))))))
  dsimp only at h5
  rw [c2] at h5
  obtain ⟨a5, e5, g5⟩ := ty_i64 h5 Try.underlying2
  have e5 := drop_more e5 rfl
  have h6 := hf _ (List.mem_cons_of_mem _ (List.mem_cons_of_mem _ (List.mem_cons_of_mem _ (List.mem_cons_of_mem _ (List.mem_cons_of_mem _ (List.mem_cons_of_mem _ (List.mem_cons_self ..)))))))
  dsimp only at h6
  rw [c64] at h6
  obtain ⟨a6, e6, g6⟩ := ty_LDot h6
  have e6 := drop_more e6 rfl
  rw [drop_all' hl] at e6
  rw [e6] at e5
  rw [e5] at e4
  rw [e4] at e3
  rw [e3] at e2
  rw [e2] at e1
  rw [e1] at e0
  exact ⟨⟨a0, a1, a2, a3, a4, a5, a6⟩, by rw [List.drop_zero] at e0; rw [e0]; rfl, g0, g1, g2, g3, g4, g5, g6⟩
theorem ty_LEff {n : Nat} {xs : List AV} (h : TyC Try.prog n 24 xs) : ∃ a : List (Eff), xs = [.list (.agg 7) (a.map effA)] ∧ (a.length ≤ reachBytes ∧ ∀ y ∈ a, okEff y) := by
  obtain ⟨l, rfl, hl, hx⟩ := ty_slice h Try.underlying24
  have hs : shOf Try.prog 66 = .agg 7 := by rw [shOf_struct Try.underlying66, show Try.prog.cellsOf 66 = 7 by kernel_rfl]
  have hb : 1 ≤ Try.prog.bytesOf 66 := Nat.le_of_ble_eq_true (by kernel_rfl)
  rw [hs] at hx ⊢
  have : ∀ x ∈ l, ∃ a : Eff, x = effA a ∧ okEff a := by
    intro x hxl
    obtain ⟨ys, hy, rfl⟩ := hx x hxl
    obtain ⟨a, e1, g1⟩ := ty_Eff hy
    exact ⟨a, by rw [e1]; rfl, g1⟩
  obtain ⟨a, rfl, ha⟩ := list_of' this
  exact ⟨a, rfl, Nat.le_trans (by simpa using Nat.le_mul_of_pos_right (a.map effA).length hb) hl, ha⟩
theorem ty_Item {n : Nat} {xs : List AV} (h : TyC Try.prog n 68 xs) : ∃ a : Item, xs = itemC a ∧ okItem a := by
  obtain ⟨hl, hf⟩ := ty_struct h Try.underlying68
  have c9 : Try.prog.cellsOf 9 = 1 := by kernel_rfl
  have c3 : Try.prog.cellsOf 3 = 1 := by kernel_rfl
  have c2 : Try.prog.cellsOf 2 = 1 := by kernel_rfl
  have c47 : Try.prog.cellsOf 47 = 3 := by kernel_rfl
  have c68 : Try.prog.cellsOf 68 = 8 := by kernel_rfl
  rw [c68] at hl
  have h0 := hf _ (List.mem_cons_self ..)
  dsimp only at h0
  rw [c9] at h0
  obtain ⟨a0, e0, g0⟩ := ty_str h0 Try.underlying9
  have e0 := drop_more e0 rfl
  have h1 := hf _ (List.mem_cons_of_mem _ (List.mem_cons_self ..))
  dsimp only at h1
  rw [c9] at h1
  obtain ⟨a1, e1, g1⟩ := ty_str h1 Try.underlying9
  have e1 := drop_more e1 rfl
  have h2 := hf _ (List.mem_cons_of_mem _ (List.mem_cons_of_mem _ (List.mem_cons_self ..)))
  dsimp only at h2
  rw [c3] at h2
  obtain ⟨a2, e2, g2⟩ := ty_i64 h2 Try.underlying3
  have e2 := drop_more e2 rfl
  have h3 := hf _ (List.mem_cons_of_mem _ (List.mem_cons_of_mem _ (List.mem_cons_of_mem _ (List.mem_cons_self ..))))
  dsimp only at h3
  rw [c9] at h3
  obtain ⟨a3, e3, g3⟩ := ty_str h3 Try.underlying9
  have e3 := drop_more e3 rfl
  have h4 := hf _ (List.mem_cons_of_mem _ (List.mem_cons_of_mem _ (List.mem_cons_of_mem _ (List.mem_cons_of_mem _ (List.mem_cons_self ..)))))
  dsimp only at h4
  rw [c2] at h4
  obtain ⟨a4, e4, g4⟩ := ty_i64 h4 Try.underlying2
  have e4 := drop_more e4 rfl
  have h5 := hf _ (List.mem_cons_of_mem _ (List.mem_cons_of_mem _ (List.mem_cons_of_mem _ (List.mem_cons_of_mem _ (List.mem_cons_of_mem _ (List.mem_cons_self ..))))))
  dsimp only at h5
  rw [c47] at h5
  obtain ⟨a5, e5, g5⟩ := ty_Dot h5
  have e5 := drop_more e5 rfl
  rw [drop_all' hl] at e5
  rw [e5] at e4
  rw [e4] at e3
  rw [e3] at e2
  rw [e2] at e1
  rw [e1] at e0
  exact ⟨⟨a0, a1, a2, a3, a4, a5⟩, by rw [List.drop_zero] at e0; rw [e0]; rfl, g0, g1, g2, g3, g4, g5⟩
theorem ty_LItem {n : Nat} {xs : List AV} (h : TyC Try.prog n 52 xs) : ∃ a : List (Item), xs = [.list (.agg 8) (a.map itemA)] ∧ (a.length ≤ reachBytes ∧ ∀ y ∈ a, okItem y) := by
  obtain ⟨l, rfl, hl, hx⟩ := ty_slice h Try.underlying52
  have hs : shOf Try.prog 68 = .agg 8 := by rw [shOf_struct Try.underlying68, show Try.prog.cellsOf 68 = 8 by kernel_rfl]
  have hb : 1 ≤ Try.prog.bytesOf 68 := Nat.le_of_ble_eq_true (by kernel_rfl)
  rw [hs] at hx ⊢
  have : ∀ x ∈ l, ∃ a : Item, x = itemA a ∧ okItem a := by
    intro x hxl
    obtain ⟨ys, hy, rfl⟩ := hx x hxl
    obtain ⟨a, e1, g1⟩ := ty_Item hy
    exact ⟨a, by rw [e1]; rfl, g1⟩
  obtain ⟨a, rfl, ha⟩ := list_of' this
  exact ⟨a, rfl, Nat.le_trans (by simpa using Nat.le_mul_of_pos_right (a.map itemA).length hb) hl, ha⟩
theorem ty_Lstring {n : Nat} {xs : List AV} (h : TyC Try.prog n 41 xs) : ∃ a : List (List UInt8), xs = [.list (.leaf) (a.map AV.str)] ∧ (a.length ≤ reachBytes ∧ ∀ y ∈ a, y.length ≤ reachBytes) := by
  obtain ⟨l, rfl, hl, hx⟩ := ty_slice h Try.underlying41
  have hs : shOf Try.prog 9 = .leaf := by exact shOf_str Try.underlying9
  have hb : 1 ≤ Try.prog.bytesOf 9 := Nat.le_of_ble_eq_true (by kernel_rfl)
  rw [hs] at hx ⊢
  have : ∀ x ∈ l, ∃ a : List UInt8, x = AV.str a ∧ a.length ≤ reachBytes := by
    intro x hxl
    obtain ⟨ys, hy, rfl⟩ := hx x hxl
    obtain ⟨a, e1, g1⟩ := ty_str hy Try.underlying9
    exact ⟨a, by rw [e1]; rfl, g1⟩
  obtain ⟨a, rfl, ha⟩ := list_of' this
  exact ⟨a, rfl, Nat.le_trans (by simpa using Nat.le_mul_of_pos_right (a.map AV.str).length hb) hl, ha⟩
end Go.Bv
