/- Part of the lift: an abstract walk of the program's code, proved sound, and what it shows of this program. -/
import Derived.Test.YtldjfpfahgcicaaPart11
import Derived.Test.YtldjfpfahgcicaaPart12
namespace Go.Bv
set_option linter.unusedSimpArgs false
set_option linter.unusedVariables false
set_option maxHeartbeats 4000000
set_option maxRecDepth 20000
open Go Go.Proofs
theorem indexC_none (g : Nat) (s : List UInt8) (d : List Item → Item → Bool) (l : List Item) (hl : l.length ≤ 2 ^ 38) (hg : ∀ k x, ACalls Try.prog g [itemA x, .ptr 0 0 0] [.row .box .leaf [.str s]] (.bool (d k x)) [.row .box .leaf [.str s]])
    (hn : ∀ (j : Nat) (h : j < l.length), d (l.take j) l[j] = false) : ACalls Try.prog Nm.slices_IndexFunc_api_Item_api_Item [.own 0 0 l.length, .fn g [.ptr 1 0 0]] [.row .vrow (.agg 8) (l.map itemA), .row .box .leaf [.str s]] (i64 (-1)) [.row .vrow (.agg 8) (l.map itemA), .row .box .leaf [.str s]] := by
  refine ACalls_of tab (dr_snd tab mixed) Nm.slices_IndexFunc_api_Item_api_Item_h rfl (by kernel_rfl) (Nat.le_of_ble_eq_true rfl) rfl ?_
  refine NLoop.mk [] [0, 1, 6, 7, 8] (fun m vs H => ∃ i, i ≤ l.length ∧ m = l.length - i ∧ H = [.row .vrow (.agg 8) (l.map itemA), .row .box .leaf [.str s]] ∧ vs = [.own 0 0 l.length, .fn g [.ptr 1 0 0], .own 0 0 l.length, i64 l.length, i64 i]) rfl ?_ ?_
  · exact Canon.mk [] rfl ⟨l.length, 0, Nat.zero_le _, rfl, rfl, rfl⟩
  · rintro m vs H ⟨i, hi, rfl, rfl, rfl⟩
    by_cases hil : i < l.length
    · have hc := hg (l.take i) l[i]
      rw [hn i hil] at hc
      try rw [if_neg (by simp), ← List.take_succ_eq_append_getElem hil] at hc
      refine ND.yes (by omega) ?_
      refine NP.mk (by (simp only [List.length_map, List.length_append, List.length_replicate, List.length_cons, List.length_nil, List.length_take, List.length_drop]; omega)) ?_
      refine NG.map0N (by omega) ?_
      refine NCall.subSame [1] (hc) ?_
      refine NW.i64 (by omega) (by omega) ?_
      exact Canon.mk [] rfl ⟨l.length - (i + 1), by omega, i + 1, by omega, rfl, rfl, rfl⟩
    · have : i = l.length := by omega
      subst this
      try rw [List.take_length]
      refine ND.no (by omega) ?_
      exact NRet.mk [] rfl ⟨.refl _, rfl⟩
theorem indexC_some (g : Nat) (s : List UInt8) (d : List Item → Item → Bool) (l : List Item) (hl : l.length ≤ 2 ^ 38) (hg : ∀ k x, ACalls Try.prog g [itemA x, .ptr 0 0 0] [.row .box .leaf [.str s]] (.bool (d k x)) [.row .box .leaf [.str s]])
    (i0 : Nat) (h0 : i0 < l.length) (hn : ∀ (j : Nat) (h : j < l.length), j < i0 → d (l.take j) l[j] = false) (hd : d (l.take i0) l[i0] = true) : ACalls Try.prog Nm.slices_IndexFunc_api_Item_api_Item [.own 0 0 l.length, .fn g [.ptr 1 0 0]] [.row .vrow (.agg 8) (l.map itemA), .row .box .leaf [.str s]] (i64 i0) [.row .vrow (.agg 8) (l.map itemA), .row .box .leaf [.str s]] := by
  refine ACalls_of tab (dr_snd tab mixed) Nm.slices_IndexFunc_api_Item_api_Item_h rfl (by kernel_rfl) (Nat.le_of_ble_eq_true rfl) rfl ?_
  refine NLoop.mk [] [0, 1, 6, 7, 8] (fun m vs H => ∃ i, i ≤ i0 ∧ m = l.length - i ∧ H = [.row .vrow (.agg 8) (l.map itemA), .row .box .leaf [.str s]] ∧ vs = [.own 0 0 l.length, .fn g [.ptr 1 0 0], .own 0 0 l.length, i64 l.length, i64 i]) rfl ?_ ?_
  · exact Canon.mk [] rfl ⟨l.length, 0, Nat.zero_le _, rfl, rfl, rfl⟩
  · rintro m vs H ⟨i, hi, rfl, rfl, rfl⟩
    have hil : i < l.length := by omega
    have hc := hg (l.take i) l[i]
    by_cases hii : i = i0
    · subst hii
      rw [hd] at hc
      try rw [if_pos rfl] at hc
      refine ND.yes (by omega) ?_
      refine NP.mk (by (simp only [List.length_map, List.length_append, List.length_replicate, List.length_cons, List.length_nil, List.length_take, List.length_drop]; omega)) ?_
      refine NG.map0N (by omega) ?_
      refine NCall.subSame [1] (hc) ?_
      exact NRet.mk [] rfl ⟨.refl _, rfl⟩
    · rw [hn i hil (by omega)] at hc
      try rw [if_neg (by simp), ← List.take_succ_eq_append_getElem hil] at hc
      refine ND.yes (by omega) ?_
      refine NP.mk (by (simp only [List.length_map, List.length_append, List.length_replicate, List.length_cons, List.length_nil, List.length_take, List.length_drop]; omega)) ?_
      refine NG.map0N (by omega) ?_
      refine NCall.subSame [1] (hc) ?_
      refine NW.i64 (by omega) (by omega) ?_
      exact Canon.mk [] rfl ⟨l.length - (i + 1), by omega, i + 1, by omega, rfl, rfl, rfl⟩
theorem deleteC_walk (g : Nat) (s : List UInt8) (d : List Item → Item → Bool) (l : List Item) (hl : l.length ≤ 2 ^ 38) (hg : ∀ k x, ACalls Try.prog g [itemA x, .ptr 0 0 0] [.row .box .leaf [.str s]] (.bool (d k x)) [.row .box .leaf [.str s]]) :
    ACalls Try.prog Nm.slices_DeleteFunc_api_Item_api_Item [.own 0 0 l.length, .fn g [.ptr 1 0 0]] [.row .vrow (.agg 8) (l.map itemA), .row .box .leaf [.str s]] (.own 0 0 (keepD d l).length)
      [.row .vrow (.agg 8) ((keepD d l).map itemA ++ List.replicate (l.length - (keepD d l).length) zI), .row .box .leaf [.str s]] := by
  refine ACalls_of tab (dr_snd tab mixed) Nm.slices_DeleteFunc_api_Item_api_Item_h rfl (by kernel_rfl) (Nat.le_of_ble_eq_true rfl) rfl ?_
  by_cases hex : ∃ i, ∃ h : i < l.length, d (l.take i) l[i] = true
  · obtain ⟨i0, ⟨h0, hd⟩, hmin⟩ := least_ex hex
    have hn : ∀ (j : Nat) (h : j < l.length), j < i0 → d (l.take j) l[j] = false := fun j h hj => by simpa using fun k => hmin j hj ⟨h, k⟩
    have hk0 := keepD_none d (l := l) (i := i0) (by omega) hn
    have hk1 : keepD d (l.take (i0 + 1)) = l.take i0 := by rw [keepD_take d h0, hk0, hd, if_pos rfl]
    have hlt : ∀ {j : Nat}, i0 < j → j ≤ l.length → (keepD d (l.take j)).length < j := fun {j} => keepD_lt d h0 (by rw [hk0, hd])
    have k1 := indexC_some g s d l hl hg i0 h0 hn hd
    refine NCall.atA (k1) ?_
    refine ND.no (by omega) ?_
    refine NW.i64 (by omega) (by omega) ?_
    refine NLoop.mk [] [0, 1, 5, 6] (fun m vs H => ∃ j, i0 < j ∧ j ≤ l.length ∧ m = l.length - j ∧ H = [.row .vrow (.agg 8) ((keepD d (l.take j) ++ l.drop (keepD d (l.take j)).length).map itemA), .row .box .leaf [.str s]] ∧
      vs = [.own 0 0 l.length, .fn g [.ptr 1 0 0], i64 (keepD d (l.take j)).length, i64 j]) rfl ?_ ?_
    · refine Canon.mk [] rfl ⟨_, i0 + 1, by omega, by omega, rfl, ?_, ?_⟩
      · rw [hk1, List.length_take, Nat.min_eq_left (by omega), List.take_append_drop]
      · rw [hk1, List.length_take, Nat.min_eq_left (by omega)]; rfl
    rintro m vs H ⟨j, hij, hj, rfl, rfl, rfl⟩
    by_cases hjl : j < l.length
    · have hlt := hlt hij hj
      have hkt := keepD_take d hjl
      obtain ⟨K, hK⟩ : ∃ K, K = keepD d (l.take j) := ⟨_, rfl⟩
      rw [← hK] at hlt hkt ⊢
      have hc := hg K l[j]
      obtain ⟨R, hR⟩ : ∃ R, R = K ++ l.drop K.length := ⟨_, rfl⟩
      have hrl : R.length = l.length := by rw [hR, List.length_append, List.length_drop]; omega
      have hjR : j < R.length := by omega
      have hget : R[j] = l[j] := by
        simp only [hR]
        rw [List.getElem_append_right (by omega), List.getElem_drop]
        congr 1; omega
      have hKR : K.length < R.length := by omega
      rw [← hR]
      cases hp : d K l[j] with
      | true =>
        rw [hp] at hc hkt
        rw [if_pos rfl] at hkt
        try rw [if_pos rfl] at hc
        rw [← hget] at hc
        refine ND.yes (by omega) ?_
        refine NP.mk (by (simp only [List.length_map, List.length_append, List.length_replicate, List.length_cons, List.length_nil, List.length_take, List.length_drop]; omega)) ?_
        refine NG.map0N (by omega) ?_
        refine NCall.subSame [1] (hc) ?_
        refine NW.i64 (by omega) (by omega) ?_
        refine Canon.mk [] rfl ⟨l.length - (j + 1), by omega, j + 1, by omega, by omega, rfl, ?_, ?_⟩
        · rw [hkt, ← hR]
        · rw [hkt]; rfl
      | false =>
        rw [hp] at hc hkt
        rw [if_neg (by simp)] at hkt
        try rw [if_neg (by simp)] at hc
        rw [← hget] at hc
        refine ND.yes (by omega) ?_
        refine NP.mk (by (simp only [List.length_map, List.length_append, List.length_replicate, List.length_cons, List.length_nil, List.length_take, List.length_drop]; omega)) ?_
        refine NG.map0N (by omega) ?_
        refine NCall.subSame [1] (hc) ?_
        refine NP.mk (by (simp only [List.length_map, List.length_append, List.length_replicate, List.length_cons, List.length_nil, List.length_take, List.length_drop]; omega)) ?_
        refine NG.map0N (by omega) ?_
        refine NW.i64 (by omega) (by omega) ?_
        refine NW.i64 (by omega) (by omega) ?_
        refine Canon.mk [] rfl ⟨l.length - (j + 1), by omega, j + 1, by omega, by omega, rfl, ?_, ?_⟩
        · rw [hkt]
          have : (R.map itemA).set (0 + K.length) (itemA R[j]) = ((K ++ [l[j]]) ++ l.drop (K ++ [l[j]]).length).map itemA := by
            rw [hget, Nat.zero_add, ← List.map_set, hR, List.set_append, if_neg (by omega), Nat.sub_self, List.drop_eq_getElem_cons (by omega), List.set_cons_zero, List.append_assoc, List.length_append]
            rfl
          rw [← this]
          try rw [← hget]
          rfl
        · rw [hkt, List.length_append]; rfl
    · have : j = l.length := by omega
      subst this
      have hlt := hlt hij hj
      rw [List.take_length] at hlt ⊢
      obtain ⟨K, hK⟩ : ∃ K, K = keepD d l := ⟨_, rfl⟩
      rw [← hK] at hlt ⊢
      have hrl : (K ++ l.drop K.length).length = l.length := by rw [List.length_append, List.length_drop]; omega
      refine ND.no (by omega) ?_
      refine NSl.mid (by omega) ?_
      refine NP.mk (by (simp only [List.length_map, List.length_append, List.length_replicate, List.length_cons, List.length_nil, List.length_take, List.length_drop]; omega)) ?_
      refine NRet.mk [] rfl ⟨.refl _, ?_⟩
      rw [Int.toNat_natCast, Nat.zero_add, List.map_append, List.take_left' (by simp), List.drop_eq_nil_of_le (by rw [List.length_append, List.length_map, List.length_map, List.length_drop]; omega), List.append_nil]
      rfl
  · have hn : ∀ (j : Nat) (h : j < l.length), d (l.take j) l[j] = false := fun j h => by simpa using fun k => hex ⟨j, h, k⟩
    have hk : keepD d l = l := by
      have := keepD_none d (l := l) (i := l.length) (Nat.le_refl _) (fun j h _ => hn j h)
      rwa [List.take_length] at this
    have k1 := indexC_none g s d l hl hg hn
    rw [hk]
    refine NCall.atA (k1) ?_
    refine ND.yes (by omega) ?_
    refine NRet.mk [] rfl ⟨.refl _, ?_⟩
    rw [Nat.sub_self, List.replicate_zero, List.append_nil]
end Go.Bv
namespace Go.Bv
set_option linter.unusedSimpArgs false
set_option linter.unusedVariables false
set_option maxHeartbeats 4000000
set_option maxRecDepth 20000
open Go Go.Proofs
theorem ofF_walk (s : List UInt8) (x : Item) : ACalls Try.prog Nm.item_Of_1 [itemA x, .ptr 0 0 0] [.row .box .leaf [.str s]] (.bool (decide (x.key ≠ s))) [.row .box .leaf [.str s]] := by
  refine ACalls_of tab (dr_snd tab mixed) Nm.item_Of_1_h rfl (by kernel_rfl) (Nat.le_of_ble_eq_true rfl) rfl ?_
  by_cases h : x.key = s
  · rw [decide_eq_false (by simpa using h)]
    refine ND.yes (by omega) ?_
    exact NRet.mk [] rfl ⟨.refl _, rfl⟩
  · rw [decide_eq_true (by simpa using h)]
    refine ND.no (by omega) ?_
    exact NRet.mk [] rfl ⟨.refl _, rfl⟩
theorem of_walk (l : List Item) (key : List UInt8) (hl : l.length ≤ 2 ^ 38) : ACalls Try.prog Nm.item_Of [itemsA l, .str key] [] (itemsA (underI l fun k => decide (k = key))) [] := by
  refine ACalls_of tab (dr_snd tab mixed) Nm.item_Of_h rfl (by kernel_rfl) (Nat.le_of_ble_eq_true rfl) rfl ?_
  have k1 := cloneI_walk l hl
  have k2 := deleteC_walk Nm.item_Of_1 key (fun _ x => decide (x.key ≠ key)) l hl (fun _ x => ofF_walk key x)
  have e : keepD (fun _ x => decide (x.key ≠ key)) l = underI l fun k => decide (k = key) := by
    rw [keepD_filter]
    unfold underI
    congr 1; funext x
    by_cases h : x.key = key <;> simp [h]
  rw [e] at k2
  have hle : (underI l fun k => decide (k = key)).length ≤ l.length := List.length_filter_le _ _
  generalize (underI l fun k => decide (k = key)) = R at *
  refine NCall.atA (ACalls.frame (k1) rfl _) ?_
  refine NCall.subA [1, 0] (k2) ?_
  exact NRet.mk [] rfl (NFrz.mk (R.map itemA) (by simp) (by rw [List.drop_zero, List.take_append_of_le_length (by simp), List.take_of_length_le (by simp)]) ⟨.refl _, rfl⟩)
end Go.Bv
namespace Go.Bv
set_option linter.unusedSimpArgs false
set_option linter.unusedVariables false
set_option maxHeartbeats 4000000
set_option maxRecDepth 20000
open Go Go.Proofs
def crossE (l : List Txn) (e : Eff) : Prop := ∀ t' ∈ l, ∀ e' ∈ t'.effs, e'.key ≠ e.key → (⟨t'.node, t'.seq, e'.at'⟩ : Dot) ∉ e.drops
theorem pick_sub {l : List Txn} {v : List Int} : ∀ t ∈ pickT l v, t ∈ l := fun t ht => (List.mem_filter.1 ht).1
theorem specPart_walk (l : List Txn) (v : List Int) (key : List UInt8) (hl : l.length ≤ reachBytes) (hx : ∀ x ∈ l, okTxn x) (hv : v.length ≤ reachBytes) : ACalls Try.prog Nm.law26_SpecPart [txnsA l, ints v, .str key] [] (.bool true) [] := by
  refine ACalls_of tab (dr_snd tab mixed) Nm.law26_SpecPart_h rfl (by kernel_rfl) (Nat.le_of_ble_eq_true rfl) rfl ?_
  have hl' := reach_lt hl
  have hv' := reach_lt hv
  have s1 := short13_walk l (by omega) hx
  cases h1 : shortT l with
  | false =>
    rw [h1] at s1
    refine NCall.call (awake26) rfl rfl ?_
    refine NCall.call (s1) rfl rfl ?_
    exact NRet.mk [] rfl ⟨.refl _, rfl⟩
  | true =>
  rw [h1] at s1
  obtain ⟨c1, c2⟩ := shortT_sm h1 hx
  have c3 := shortT_effs h1
  by_cases h2 : 60 < v.length
  · refine NCall.call (awake26) rfl rfl ?_
    refine NCall.call (s1) rfl rfl ?_
    refine ND.yes (by (simp only [List.length_map, List.length_append, List.length_replicate, List.length_cons, List.length_nil, List.length_take, List.length_drop]; omega)) ?_
    exact NRet.mk [] rfl ⟨.refl _, rfl⟩
  have s2 := closed_walk l (by omega) c2
  cases h3 : closedB l with
  | false =>
    rw [h3] at s2
    refine NCall.call (awake26) rfl rfl ?_
    refine NCall.call (s1) rfl rfl ?_
    refine ND.no (by (simp only [List.length_map, List.length_append, List.length_replicate, List.length_cons, List.length_nil, List.length_take, List.length_drop]; omega)) ?_
    refine NCall.call (s2) rfl rfl ?_
    exact NRet.mk [] rfl ⟨.refl _, rfl⟩
  | true =>
  rw [h3] at s2
  have s3 := pick_walk l v (by omega) c2 (by omega)
  have hpl : (pickT l v).length ≤ l.length := List.length_filter_le _ _
  have hpm : ∀ t ∈ pickT l v, t ∈ l := pick_sub
  have hpc := part_closed (l := l) (v := v) h3
  have hfl : ∀ t ∈ l, formed t = true := (closed_chain h3).1
  have hpf : ∀ t ∈ pickT l v, formed t = true := fun t ht => hfl t (hpm t ht)
  have hps : ∀ t ∈ pickT l v, smTxn t := fun t ht => c2 t (hpm t ht)
  refine NCall.call (awake26) rfl rfl ?_
  refine NCall.call (s1) rfl rfl ?_
  refine ND.no (by (simp only [List.length_map, List.length_append, List.length_replicate, List.length_cons, List.length_nil, List.length_take, List.length_drop]; omega)) ?_
  refine NCall.call (s2) rfl rfl ?_
  refine NCall.call (s3) rfl rfl ?_
  have s4 := heard_walk l (by omega)
  have hhl := heardP_len l
  generalize pickT l v = part at *
  generalize heardP l = hp at *
  refine NLoop.mk [] [0, 1, 2, 7, 8] (fun m vs H => ∃ i, i ≤ part.length ∧ m = part.length - i ∧ (∀ x ∈ part.take i, vwithin x.deps v = true) ∧ H = [] ∧ vs = [txnsA l, ints v, .str key, txnsA part, i64 i]) rfl ?_ ?_
  · exact Canon.mk [] rfl ⟨part.length, 0, Nat.zero_le _, rfl, by simp, rfl, rfl⟩
  rintro m vs H ⟨i, hi, rfl, ht, rfl, rfl⟩
  by_cases hil : i < part.length
  · have k1 := vecWithin_walk part[i].deps v (by have := (hps _ (List.getElem_mem hil)).2.1; omega) (by omega)
    cases hw : vwithin part[i].deps v with
    | true =>
      rw [hw] at k1
      refine ND.yes (by (simp only [List.length_map, List.length_append, List.length_replicate, List.length_cons, List.length_nil, List.length_take, List.length_drop]; omega)) ?_
      refine NP.mk (by omega) ?_
      refine NG.mapN (by omega) ?_
      refine NCall.call (k1) rfl rfl ?_
      refine NW.i64 (by omega) (by omega) ?_
      exact Canon.mk [] rfl ⟨part.length - (i + 1), by omega, i + 1, by omega, rfl, all_take hil ht hw, rfl, rfl⟩
    | false =>
      rw [hw] at k1
      refine ND.yes (by (simp only [List.length_map, List.length_append, List.length_replicate, List.length_cons, List.length_nil, List.length_take, List.length_drop]; omega)) ?_
      refine NP.mk (by omega) ?_
      refine NG.mapN (by omega) ?_
      refine NCall.call (k1) rfl rfl ?_
      exact NRet.mk [] rfl ⟨.refl _, rfl⟩
  have : i = part.length := by omega
  subst this
  rw [List.take_length] at ht
  have s5 := vecWithin_walk v hp (by omega) (by omega)
  cases hw : vwithin v hp with
  | false =>
    rw [hw] at s5
    refine ND.no (by (simp only [List.length_map, List.length_append, List.length_replicate, List.length_cons, List.length_nil, List.length_take, List.length_drop]; omega)) ?_
    refine NCall.call (s4) rfl rfl ?_
    refine NCall.call (s5) rfl rfl ?_
    exact NRet.mk [] rfl ⟨.refl _, rfl⟩
  | true =>
  rw [hw] at s5
  obtain ⟨q1, q2, q3⟩ := hpc (fun t htp => (vwithin_iff _ _).1 (ht t htp)) ((vwithin_iff _ _).1 hw)
  have s6 := closed_walk part (by omega) hps
  rw [q1] at s6
  have s7 := heard_walk part (by omega)
  rw [q2] at s7
  have s8 := vecTrim_walk v (by omega)
  have htl := trim_len v
  have s9 := eq7_self (trim v) (by omega)
  have s10 := twice14_walk part (by omega)
  rw [show twice part = false by unfold twice; rw [decide_eq_true q3]; rfl] at s10
  generalize trim v = tv at *
  refine ND.no (by (simp only [List.length_map, List.length_append, List.length_replicate, List.length_cons, List.length_nil, List.length_take, List.length_drop]; omega)) ?_
  refine NCall.call (s4) rfl rfl ?_
  refine NCall.call (s5) rfl rfl ?_
  refine NCall.call (s6) rfl rfl ?_
  refine NCall.call (s7) rfl rfl ?_
  refine NCall.call (s8) rfl rfl ?_
  refine NCall.call (s9) rfl rfl ?_
  refine NCall.call (s10) rfl rfl ?_
  refine NLoop.mk [] [0, 1, 2, 7, 9] (fun m vs H => ∃ i, i ≤ l.length ∧ m = l.length - i ∧ Hid (∀ x ∈ l.take i, ∀ e ∈ x.effs, crossE l e) ∧ H = [] ∧ vs = [txnsA l, ints v, .str key, txnsA part, i64 i]) rfl ?_ ?_
  · exact Canon.mk [] rfl ⟨l.length, 0, Nat.zero_le _, rfl, hid_zero, rfl, rfl⟩
  rintro m vs H ⟨i, hi, rfl, hti, rfl, rfl⟩
  by_cases hil : i < l.length
  · refine ND.yes (by (simp only [List.length_map, List.length_append, List.length_replicate, List.length_cons, List.length_nil, List.length_take, List.length_drop]; omega)) ?_
    have hsi := c2 _ (List.getElem_mem hil)
    have hei := c3 _ (List.getElem_mem hil)
    refine NLoop.mk [] [0, 1, 2, 7, 9, 10] (fun m vs H => ∃ k, k ≤ l[i].effs.length ∧ m = l[i].effs.length - k ∧ Hid (∀ e ∈ l[i].effs.take k, crossE l e) ∧ H = [] ∧ vs = [txnsA l, ints v, .str key, txnsA part, i64 i, i64 k]) rfl ?_ ?_
    · exact Canon.mk [] rfl ⟨l[i].effs.length, 0, Nat.zero_le _, rfl, hid_zero, rfl, rfl⟩
    rintro m vs H ⟨k, hk, rfl, htk, rfl, rfl⟩
    by_cases hkl : k < l[i].effs.length
    · refine NP.mk (by omega) ?_
      refine NG.mapN (by omega) ?_
      refine ND.yes (by (simp only [List.length_map, List.length_append, List.length_replicate, List.length_cons, List.length_nil, List.length_take, List.length_drop]; omega)) ?_
      have hsk := (hsi.2.2.2 _ (List.getElem_mem hkl)).2.2.2
      refine NLoop.mk [] [0, 1, 2, 7, 9, 10, 11] (fun m vs H => ∃ j, j ≤ l.length ∧ m = l.length - j ∧ Hid (∀ t' ∈ l.take j, ∀ e' ∈ t'.effs, e'.key ≠ l[i].effs[k].key → (⟨t'.node, t'.seq, e'.at'⟩ : Dot) ∉ l[i].effs[k].drops) ∧ H = [] ∧ vs = [txnsA l, ints v, .str key, txnsA part, i64 i, i64 k, i64 j]) rfl ?_ ?_
      · exact Canon.mk [] rfl ⟨l.length, 0, Nat.zero_le _, rfl, hid_zero, rfl, rfl⟩
      rintro m vs H ⟨j, hj, rfl, htj, rfl, rfl⟩
      by_cases hjl : j < l.length
      · refine ND.yes (by (simp only [List.length_map, List.length_append, List.length_replicate, List.length_cons, List.length_nil, List.length_take, List.length_drop]; omega)) ?_
        have hsj := c2 _ (List.getElem_mem hjl)
        have hej := c3 _ (List.getElem_mem hjl)
        refine NLoop.mk [] [0, 1, 2, 7, 9, 10, 11, 12] (fun m vs H => ∃ q, q ≤ l[j].effs.length ∧ m = l[j].effs.length - q ∧ Hid (∀ e' ∈ l[j].effs.take q, e'.key ≠ l[i].effs[k].key → (⟨l[j].node, l[j].seq, e'.at'⟩ : Dot) ∉ l[i].effs[k].drops) ∧ H = [] ∧ vs = [txnsA l, ints v, .str key, txnsA part, i64 i, i64 k, i64 j, i64 q]) rfl ?_ ?_
        · exact Canon.mk [] rfl ⟨l[j].effs.length, 0, Nat.zero_le _, rfl, hid_zero, rfl, rfl⟩
        rintro m vs H ⟨q, hq, rfl, htq, rfl, rfl⟩
        by_cases hql : q < l[j].effs.length
        · have k2 := is9_walk l[i].effs[k].drops ⟨l[j].node, l[j].seq, l[j].effs[q].at'⟩ hsk
          by_cases hke : l[j].effs[q].key = l[i].effs[k].key
          · refine NP.mk (by omega) ?_
            refine NG.mapN (by omega) ?_
            refine ND.yes (by (simp only [List.length_map, List.length_append, List.length_replicate, List.length_cons, List.length_nil, List.length_take, List.length_drop]; omega)) ?_
            refine NP.mk (by kernel_rfl) ?_
            apply NDr.pure
            · exact ⟨rfl, rfl⟩
            apply NDr.pure
            · exact ⟨rfl, rfl⟩
            apply NDr.pure
            · refine NP.mk (by omega) ?_
              refine NG.mapN (by omega) ?_
              exact ⟨rfl, rfl⟩
            apply NDr.pure
            · exact ⟨rfl, rfl⟩
            apply NDr.pure
            · exact ⟨rfl, rfl⟩
            apply NDr.pure
            · exact ⟨rfl, rfl⟩
            apply NDr.pure
            · refine NP.mk (by omega) ?_
              refine NG.mapN (by omega) ?_
              exact ⟨rfl, rfl⟩
            apply NDr.pure
            · exact ⟨rfl, rfl⟩
            apply NDr.pure
            · exact ⟨rfl, rfl⟩
            apply NDr.pure
            · exact ⟨rfl, rfl⟩
            apply NDr.pure
            · exact ⟨rfl, rfl⟩
            apply NDr.pure
            · refine NP.mk (by omega) ?_
              refine NG.mapN (by omega) ?_
              exact ⟨rfl, rfl⟩
            apply NDr.pure
            · exact ⟨rfl, rfl⟩
            apply NDr.pure
            · exact ⟨rfl, rfl⟩
            apply NDr.pure
            · exact ⟨rfl, rfl⟩
            apply NDr.pure
            · refine NP.mk (by omega) ?_
              refine NG.mapN (by omega) ?_
              exact ⟨rfl, rfl⟩
            apply NDr.pure
            · exact ⟨rfl, rfl⟩
            apply NDr.pure
            · exact ⟨rfl, rfl⟩
            apply NDr.pure
            · refine ND.yes (by omega) ?_
              exact ⟨rfl, rfl⟩
            apply NDr.pure
            · exact ⟨rfl, rfl⟩
            apply NDr.pure
            · exact ⟨rfl, rfl⟩
            refine NP.mk (by kernel_rfl) ?_
            refine NW.i64 (by omega) (by omega) ?_
            exact Canon.mk [] rfl ⟨l[j].effs.length - (q + 1), by omega, q + 1, by omega, rfl, hid_take hql htq (fun h => absurd hke h), rfl, rfl⟩
          · by_cases hd : (⟨l[j].node, l[j].seq, l[j].effs[q].at'⟩ : Dot) ∈ l[i].effs[k].drops
            · rw [decide_eq_true hd] at k2
              refine NP.mk (by omega) ?_
              refine NG.mapN (by omega) ?_
              refine ND.yes (by rw [List.length_map]; omega) ?_
              refine NP.mk (by kernel_rfl) ?_
              repeat (first | (apply NDr.pure; · exact ⟨rfl, rfl⟩) | (apply NDr.pure; · refine NP.mk (by omega) ?_; refine NG.mapN (by omega) ?_; exact ⟨rfl, rfl⟩) | (apply NDr.pure; · refine ND.no (by exact hke) ?_; exact ⟨rfl, rfl⟩) | (apply NDr.pure; · refine NCall.call k2 rfl rfl ?_; exact ⟨rfl, rfl⟩))
              refine NP.mk (by kernel_rfl) ?_
              exact NRet.mk [] rfl ⟨.refl _, rfl⟩
            · rw [decide_eq_false hd] at k2
              refine NP.mk (by omega) ?_
              refine NG.mapN (by omega) ?_
              refine ND.yes (by (simp only [List.length_map, List.length_append, List.length_replicate, List.length_cons, List.length_nil, List.length_take, List.length_drop]; omega)) ?_
              refine NP.mk (by kernel_rfl) ?_
              apply NDr.pure
              · exact ⟨rfl, rfl⟩
              apply NDr.pure
              · exact ⟨rfl, rfl⟩
              apply NDr.pure
              · refine NP.mk (by omega) ?_
                refine NG.mapN (by omega) ?_
                exact ⟨rfl, rfl⟩
              apply NDr.pure
              · exact ⟨rfl, rfl⟩
              apply NDr.pure
              · exact ⟨rfl, rfl⟩
              apply NDr.pure
              · exact ⟨rfl, rfl⟩
              apply NDr.pure
              · refine NP.mk (by omega) ?_
                refine NG.mapN (by omega) ?_
                exact ⟨rfl, rfl⟩
              apply NDr.pure
              · exact ⟨rfl, rfl⟩
              apply NDr.pure
              · exact ⟨rfl, rfl⟩
              apply NDr.pure
              · exact ⟨rfl, rfl⟩
              apply NDr.pure
              · exact ⟨rfl, rfl⟩
              apply NDr.pure
              · refine NP.mk (by omega) ?_
                refine NG.mapN (by omega) ?_
                exact ⟨rfl, rfl⟩
              apply NDr.pure
              · exact ⟨rfl, rfl⟩
              apply NDr.pure
              · exact ⟨rfl, rfl⟩
              apply NDr.pure
              · exact ⟨rfl, rfl⟩
              apply NDr.pure
              · refine NP.mk (by omega) ?_
                refine NG.mapN (by omega) ?_
                exact ⟨rfl, rfl⟩
              apply NDr.pure
              · exact ⟨rfl, rfl⟩
              apply NDr.pure
              · exact ⟨rfl, rfl⟩
              apply NDr.pure
              · refine ND.no (by omega) ?_
                exact ⟨rfl, rfl⟩
              apply NDr.pure
              · exact ⟨rfl, rfl⟩
              apply NDr.pure
              · exact ⟨rfl, rfl⟩
              apply NDr.pure
              · exact ⟨rfl, rfl⟩
              apply NDr.pure
              · refine NP.mk (by omega) ?_
                refine NG.mapN (by omega) ?_
                exact ⟨rfl, rfl⟩
              apply NDr.pure
              · exact ⟨rfl, rfl⟩
              apply NDr.pure
              · exact ⟨rfl, rfl⟩
              apply NDr.pure
              · exact ⟨rfl, rfl⟩
              apply NDr.pure
              · refine NP.mk (by omega) ?_
                refine NG.mapN (by omega) ?_
                exact ⟨rfl, rfl⟩
              apply NDr.pure
              · exact ⟨rfl, rfl⟩
              apply NDr.pure
              · exact ⟨rfl, rfl⟩
              apply NDr.pure
              · exact ⟨rfl, rfl⟩
              apply NDr.pure
              · exact ⟨rfl, rfl⟩
              apply NDr.pure
              · refine NP.mk (by omega) ?_
                refine NG.mapN (by omega) ?_
                exact ⟨rfl, rfl⟩
              apply NDr.pure
              · exact ⟨rfl, rfl⟩
              apply NDr.pure
              · exact ⟨rfl, rfl⟩
              apply NDr.pure
              · exact ⟨rfl, rfl⟩
              apply NDr.pure
              · exact ⟨rfl, rfl⟩
              apply NDr.pure
              · refine NP.mk (by omega) ?_
                refine NG.mapN (by omega) ?_
                exact ⟨rfl, rfl⟩
              apply NDr.pure
              · exact ⟨rfl, rfl⟩
              apply NDr.pure
              · exact ⟨rfl, rfl⟩
              apply NDr.pure
              · exact ⟨rfl, rfl⟩
              apply NDr.pure
              · exact ⟨rfl, rfl⟩
              apply NDr.pure
              · refine NP.mk (by omega) ?_
                refine NG.mapN (by omega) ?_
                exact ⟨rfl, rfl⟩
              apply NDr.pure
              · exact ⟨rfl, rfl⟩
              apply NDr.pure
              · exact ⟨rfl, rfl⟩
              apply NDr.pure
              · exact ⟨rfl, rfl⟩
              apply NDr.pure
              · refine NP.mk (by omega) ?_
                refine NG.mapN (by omega) ?_
                exact ⟨rfl, rfl⟩
              apply NDr.pure
              · exact ⟨rfl, rfl⟩
              apply NDr.pure
              · exact ⟨rfl, rfl⟩
              apply NDr.pure
              · exact ⟨rfl, rfl⟩
              apply NDr.pure
              · refine NCall.call (k2) rfl rfl ?_
                exact ⟨rfl, rfl⟩
              apply NDr.pure
              · exact ⟨rfl, rfl⟩
              refine NP.mk (by kernel_rfl) ?_
              refine NW.i64 (by omega) (by omega) ?_
              exact Canon.mk [] rfl ⟨l[j].effs.length - (q + 1), by omega, q + 1, by omega, rfl, hid_take hql htq (fun _ => hd), rfl, rfl⟩
        have : q = l[j].effs.length := by omega
        subst this
        refine NP.mk (by omega) ?_
        refine NG.mapN (by omega) ?_
        refine ND.no (by rw [List.length_map]; omega) ?_
        refine NW.i64 (by omega) (by omega) ?_
        exact Canon.mk [] rfl ⟨l.length - (j + 1), by omega, j + 1, by omega, rfl, hid_take hjl htj (hid_all htq), rfl, rfl⟩
      have : j = l.length := by omega
      subst this
      refine ND.no (by (simp only [List.length_map, List.length_append, List.length_replicate, List.length_cons, List.length_nil, List.length_take, List.length_drop]; omega)) ?_
      refine NW.i64 (by omega) (by omega) ?_
      exact Canon.mk [] rfl ⟨l[i].effs.length - (k + 1), by omega, k + 1, by omega, rfl, hid_take hkl htk (hid_all htj), rfl, rfl⟩
    have : k = l[i].effs.length := by omega
    subst this
    refine NP.mk (by omega) ?_
    refine NG.mapN (by omega) ?_
    refine ND.no (by (simp only [List.length_map, List.length_append, List.length_replicate, List.length_cons, List.length_nil, List.length_take, List.length_drop]; omega)) ?_
    refine NW.i64 (by omega) (by omega) ?_
    exact Canon.mk [] rfl ⟨l.length - (i + 1), by omega, i + 1, by omega, rfl, hid_take hil hti (hid_all htk), rfl, rfl⟩
  have : i = l.length := by omega
  subst this
  have hti := hid_all hti
  have ho : OwnDrops part := fun t ht' e he t' ht2 e' he' hne => hti t (hpm t ht') e he t' (hpm t' ht2) e' he' hne
  have hm := means_own (key := key) q3 hpf ho
  refine ND.no (by (simp only [List.length_map, List.length_append, List.length_replicate, List.length_cons, List.length_nil, List.length_take, List.length_drop]; omega)) ?_
  have hkf : ∀ (es : List Eff), (es.filter fun e => decide (e.key = key)).length ≤ es.length := fun es => List.length_filter_le _ _
  refine NLoop.mk [(13, .agg 4)] [2, 7, 13, 14] (fun m vs H => ∃ i, i ≤ part.length ∧ m = part.length - i ∧ H = [.row .vrow (.agg 4) ((ownT (part.take i) key).map txnA)] ∧ vs = [.str key, txnsA part, .own 0 0 ((ownT (part.take i) key).map txnA).length, i64 i]) rfl ?_ ?_
  · exact Canon.mk [0] rfl ⟨part.length, 0, Nat.zero_le _, rfl, rfl, rfl⟩
  rintro m vs H ⟨i, hi, rfl, rfl, rfl⟩
  by_cases hil : i < part.length
  · have hsn : ownT (part.take (i + 1)) key = ownT (part.take i) key ++ [{ part[i] with effs := part[i].effs.filter fun e => decide (e.key = key) }] := by
      unfold ownT
      rw [List.take_succ_eq_append_getElem hil, List.map_append]; rfl
    have hol : (ownT (part.take i) key).length ≤ 24 := by
      unfold ownT
      rw [List.length_map, List.length_take]; omega
    have hei := c3 _ (hpm _ (List.getElem_mem hil))
    generalize ownT (part.take i) key = O at *
    refine ND.yes (by (simp only [List.length_map, List.length_append, List.length_replicate, List.length_cons, List.length_nil, List.length_take, List.length_drop]; omega)) ?_
    refine NP.mk (by omega) ?_
    refine NG.mapN (by omega) ?_
    refine NLoop.bl (.cons (sh := .agg 7) 1 3 rfl rfl (by decide) (.nil _)) [] [2, 7, 13, 14, 15, 16] [2, 7, 13, 14, 15] (fun m vs H => ∃ k, k ≤ part[i].effs.length ∧ m = part[i].effs.length - k ∧
      H = [.row .vrow (.agg 4) (O.map txnA), .row .box (.agg 4) [.agg [i64 part[i].node, i64 part[i].seq, ints part[i].deps, .own 2 0 (((part[i].effs.take k).filter fun e => decide (e.key = key)).map effA).length]], .row .vrow (.agg 7) (((part[i].effs.take k).filter fun e => decide (e.key = key)).map effA)] ∧
      vs = [.str key, txnsA part, .own 0 0 (O.map txnA).length, i64 i, .ptr 1 0 0, i64 k]) rfl ?_ ?_
    · exact Canon.mk [0, 1, 2] rfl ⟨part[i].effs.length, 0, Nat.zero_le _, rfl, rfl, rfl⟩
    rintro m vs H ⟨k, hk, rfl, rfl, rfl⟩
    by_cases hkl : k < part[i].effs.length
    · have hft := filter_take (fun e : Eff => decide (e.key = key)) part[i].effs hkl
      have hfl2 := hkf (part[i].effs.take k)
      rw [List.length_take] at hfl2
      generalize (part[i].effs.take k).filter (fun e : Eff => decide (e.key = key)) = F at *
      by_cases hke : part[i].effs[k].key = key
      · rw [decide_eq_true hke, if_pos rfl] at hft
        refine NP.mk (by omega) ?_
        refine NG.mapN (by omega) ?_
        refine ND.yes (by (simp only [List.length_map, List.length_append, List.length_replicate, List.length_cons, List.length_nil, List.length_take, List.length_drop]; omega)) ?_
        refine NP.mk (by omega) ?_
        refine NG.mapN (by omega) ?_
        refine NP.mk (by omega) ?_
        refine NG.mapN (by omega) ?_
        refine ND.yes (by omega) ?_
        refine NP.mk (by kernel_rfl) ?_
        apply NDr.rd [1]
        · intro fH TH
          exact ⟨rfl, rfl⟩
        apply NDr.rd [1]
        · intro fH TH
          exact ⟨rfl, rfl⟩
        apply NDr.pure
        · exact ⟨rfl, rfl⟩
        apply NDr.pure
        · exact ⟨rfl, rfl⟩
        apply NDr.pure
        · refine NP.mk (by omega) ?_
          refine NG.mapN (by omega) ?_
          exact ⟨rfl, rfl⟩
        apply NDr.pure
        · exact ⟨rfl, rfl⟩
        apply NDr.pure
        · exact ⟨rfl, rfl⟩
        apply NDr.pure
        · exact ⟨rfl, rfl⟩
        apply NDr.pure
        · refine NP.mk (by omega) ?_
          refine NG.mapN (by omega) ?_
          exact ⟨rfl, rfl⟩
        apply NDr.pure
        · exact ⟨rfl, rfl⟩
        apply NDr.pure
        · exact ⟨rfl, rfl⟩
        apply NDr.efw [2]
        · refine NFz.own ?_
          refine NApp.endA rfl (by simp; omega) ?_
          exact ⟨rfl, rfl⟩
        · repeat (first | exact True.intro | refine ⟨by first | exact rfl | exact True.intro, ?_⟩)
        apply NDr.rd [1]
        · intro fH TH
          exact ⟨rfl, rfl⟩
        apply NDr.efw [1]
        · exact ⟨rfl, rfl⟩
        · repeat (first | exact True.intro | refine ⟨by first | exact rfl | exact True.intro, ?_⟩)
        refine NP.mk (by kernel_rfl) ?_
        refine NW.i64 (by omega) (by omega) ?_
        exact Canon.mk [0, 1, 3] rfl ⟨part[i].effs.length - (k + 1), by omega, k + 1, by omega, rfl, by rw [hft, List.map_append]; rfl, rfl⟩
      · rw [decide_eq_false hke, if_neg (by simp)] at hft
        refine NP.mk (by omega) ?_
        refine NG.mapN (by omega) ?_
        refine ND.yes (by (simp only [List.length_map, List.length_append, List.length_replicate, List.length_cons, List.length_nil, List.length_take, List.length_drop]; omega)) ?_
        refine NP.mk (by omega) ?_
        refine NG.mapN (by omega) ?_
        refine NP.mk (by omega) ?_
        refine NG.mapN (by omega) ?_
        refine ND.no (by omega) ?_
        refine NW.i64 (by omega) (by omega) ?_
        exact Canon.mk [0, 1, 2] rfl ⟨part[i].effs.length - (k + 1), by omega, k + 1, by omega, rfl, by rw [hft]; rfl, rfl⟩
    have : k = part[i].effs.length := by omega
    subst this
    rw [List.take_length]
    have hfl2 := hkf part[i].effs
    generalize part[i].effs.filter (fun e : Eff => decide (e.key = key)) = F at *
    refine NP.mk (by omega) ?_
    refine NG.mapN (by omega) ?_
    refine ND.no (by (simp only [List.length_map, List.length_append, List.length_replicate, List.length_cons, List.length_nil, List.length_take, List.length_drop]; omega)) ?_
    refine Canon.mk [0, 1] rfl (NFrz.mk (F.map effA) (by simp) (by rw [List.drop_zero, List.take_of_length_le (by simp)]) ?_)
    refine NFz.own ?_
    refine NApp.endA rfl (by simp; omega) ?_
    refine NW.i64 (by omega) (by omega) ?_
    exact Canon.mk [2] rfl ⟨part.length - (i + 1), by omega, i + 1, by omega, rfl, by rw [hsn, List.map_append]; rfl, by rw [hsn, List.map_append]; rfl⟩
  have : i = part.length := by omega
  subst this
  rw [List.take_length]
  have hol : (ownT part key).length = part.length := by unfold ownT; rw [List.length_map]
  have hos : ∀ t ∈ ownT part key, smTxn t ∧ t.effs.length ≤ 20 := fun t ht => by
    obtain ⟨t0, h0, rfl⟩ := mem_ownT.1 ht
    obtain ⟨g1, g2, g3, g4⟩ := hps t0 h0
    have := hkf t0.effs
    have := c3 _ (hpm _ h0)
    exact ⟨⟨g1, g2, by simp only; omega, fun e he => g4 e (List.mem_filter.1 he).1⟩, by simp only; omega⟩
  have k1 := means_walk part (by omega) hps (fun t ht => by have := c3 t (hpm t ht); omega)
  have hml := means_len (l := part) (fun t ht => by have := c3 t (hpm t ht); omega)
  have k2 := of_walk (means part) key (by omega)
  have k3 := means_walk (ownT part key) (by omega) (fun t ht => (hos t ht).1) (fun t ht => by have := (hos t ht).2; omega)
  have hml2 := means_len (l := ownT part key) (fun t ht => by have := (hos t ht).2; omega)
  have k4 := same9_self (means (ownT part key)) (by omega)
  rw [hm] at k2
  generalize means (ownT part key) = M2 at *
  generalize means part = M1 at *
  generalize ownT part key = O at *
  refine ND.no (by (simp only [List.length_map, List.length_append, List.length_replicate, List.length_cons, List.length_nil, List.length_take, List.length_drop]; omega)) ?_
  refine NCall.call (k1) rfl rfl ?_
  refine NCall.call (k2) rfl rfl ?_
  refine NCall.eq (by simp only [List.length_map] <;> exact rfl) ?_
  refine NCall.frzAllN [0] (k3) (.cons (.own (by simp) rfl (by simp) (by simp) (by rw [List.drop_zero, List.take_of_length_le (by simp)])) .nil) rfl rfl rfl ?_
  refine NCall.call (k4) rfl rfl ?_
  exact NRet.mk [] rfl ⟨.refl _, rfl⟩
end Go.Bv
