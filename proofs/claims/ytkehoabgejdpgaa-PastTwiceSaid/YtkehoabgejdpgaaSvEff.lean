/- Part of the lift: an abstract walk of the program's code, proved sound, and what it shows of this program. -/
import Derived.Test.YtkehoabgejdpgaaSvOnly
namespace Go.Bv
set_option linter.unusedSimpArgs false
set_option linter.unusedVariables false
set_option maxHeartbeats 4000000
open Go Go.Proofs

def strsA (l : List (List UInt8)) : AV := .list .leaf (l.map AV.str)
def begins (s p : List UInt8) : Bool := decide (s.take p.length = p)
theorem covF_walk (k p : List UInt8) (hk : k.length ≤ 2 ^ 47) : ACalls Try.prog Nm.zone_Covers_1 [.str p, .ptr 0 0 0] [.row .box .leaf [.str k]] (.bool (begins k p)) [.row .box .leaf [.str k]] := by
  refine ACalls_of tab (dr_snd tab mixed) Nm.zone_Covers_1_h rfl (by kernel_rfl) (Nat.le_of_ble_eq_true rfl) rfl ?_
  refine NCall.call (hasPrefix_walk k p hk) rfl rfl ?_
  exact NRet.mk [] rfl ⟨.refl _, rfl⟩
theorem indexS_walk (g : Nat) (k : List UInt8) (l : List (List UInt8)) (p : List UInt8 → Bool) (hl : l.length ≤ 2 ^ 40) (hg : ∀ t ∈ l, ACalls Try.prog g [.str t, .ptr 0 0 0] [.row .box .leaf [.str k]] (.bool (p t)) [.row .box .leaf [.str k]]) :
    ACalls Try.prog Nm.slices_IndexFunc_string_string [strsA l, .fn g [.ptr 0 0 0]] [.row .box .leaf [.str k]] (i64 (ixI p l)) [.row .box .leaf [.str k]] := by
  refine ACalls_of tab (dr_snd tab mixed) Nm.slices_IndexFunc_string_string_h rfl (by kernel_rfl) (Nat.le_of_ble_eq_true rfl) rfl ?_
  refine NLoop.mk [] [0, 1, 6, 7, 8] (fun m vs H => ∃ i, i ≤ l.length ∧ m = l.length - i ∧ (∀ x ∈ l.take i, p x = false) ∧ H = [.row .box .leaf [.str k]] ∧ vs = [strsA l, .fn g [.ptr 0 0 0], strsA l, i64 l.length, i64 i]) rfl ?_ ?_
  · exact Canon.mk [] rfl ⟨l.length, 0, Nat.zero_le _, rfl, by simp, rfl, by simp [strsA, i64]⟩
  · rintro m vs H ⟨i, hi, rfl, ht, rfl, rfl⟩
    by_cases hil : i < l.length
    · have hc := hg _ (List.getElem_mem hil)
      obtain ⟨f1, f2⟩ := find_step hil ht
      cases hp : p l[i] with
      | true =>
        rw [hp] at hc
        rw [f1 hp]
        refine ND.yes (by omega) ?_
        refine NP.mk (by omega) ?_
        refine NG.mapN (by omega) ?_
        refine NCall.atA (hc) ?_
        exact NRet.mk [] rfl ⟨.refl _, rfl⟩
      | false =>
        rw [hp] at hc
        refine ND.yes (by omega) ?_
        refine NP.mk (by omega) ?_
        refine NG.mapN (by omega) ?_
        refine NCall.atA (hc) ?_
        refine NW.i64 (by omega) (by omega) ?_
        exact Canon.mk [] rfl ⟨l.length - (i + 1), by omega, i + 1, by omega, rfl, f2 hp, rfl, rfl⟩
    · have : i = l.length := by omega
      subst this
      rw [List.take_length] at ht
      rw [find_none ht]
      refine ND.no (by omega) ?_
      exact NRet.mk [] rfl ⟨.refl _, rfl⟩
theorem ixI_any {α : Type} (p : α → Bool) (l : List α) : l.any p = decide (0 ≤ ixI p l) := by
  unfold ixI
  cases h : l.findIdx? p with
  | none =>
    rw [List.findIdx?_eq_none_iff] at h
    rw [List.any_eq_false.2 (fun x hx => by simp [h x hx])]
    rfl
  | some i =>
    rw [List.findIdx?_eq_some_iff_getElem] at h
    obtain ⟨h1, h2, _⟩ := h
    rw [List.any_eq_true.2 ⟨_, List.getElem_mem h1, h2⟩]
    simp
theorem containsS_walk (g : Nat) (k : List UInt8) (l : List (List UInt8)) (p : List UInt8 → Bool) (hl : l.length ≤ 2 ^ 40) (hg : ∀ t ∈ l, ACalls Try.prog g [.str t, .ptr 0 0 0] [.row .box .leaf [.str k]] (.bool (p t)) [.row .box .leaf [.str k]]) :
    ACalls Try.prog Nm.slices_ContainsFunc_string_string [strsA l, .fn g [.ptr 0 0 0]] [.row .box .leaf [.str k]] (.bool (l.any p)) [.row .box .leaf [.str k]] := by
  refine ACalls_of tab (dr_snd tab mixed) Nm.slices_ContainsFunc_string_string_h rfl (by kernel_rfl) (Nat.le_of_ble_eq_true rfl) rfl ?_
  have hi := indexS_walk g k l p hl hg
  rw [ixI_any]
  by_cases h : 0 ≤ ixI p l
  · rw [decide_eq_true h]
    refine NCall.atA (hi) ?_
    refine ND.yes (by omega) ?_
    exact NRet.mk [] rfl ⟨.refl _, rfl⟩
  · rw [decide_eq_false h]
    refine NCall.atA (hi) ?_
    refine ND.no (by omega) ?_
    exact NRet.mk [] rfl ⟨.refl _, rfl⟩
theorem covers_walk (z : List (List UInt8)) (k : List UInt8) (hz : z.length ≤ 2 ^ 40) (hk : k.length ≤ 2 ^ 47) : ACalls Try.prog Nm.zone_Covers [strsA z, .str k] [] (.bool (z.any (begins k))) [] := by
  refine ACalls_of tab (dr_snd tab mixed) Nm.zone_Covers_h rfl (by kernel_rfl) (Nat.le_of_ble_eq_true rfl) rfl ?_
  have hc := containsS_walk Nm.zone_Covers_1 k z (begins k) hz (fun t _ => covF_walk k t hk)
  refine NCall.atA (hc) ?_
  exact NRet.mk [] rfl ⟨.refl _, rfl⟩
theorem dropL {sh : Sh} {es : List AV} {n : Nat} (hn : n = es.length) : DropT [.row .vrow sh es] (.own 0 0 n) (.list sh es) := by
  subst hn
  exact .val (.own trivial rfl (by simp) (by simp) (by rw [List.drop_zero, List.take_of_length_le (by simp)])) rfl (fun _ => by simp) (fun _ => by simp)
theorem cloneD_list (l : List Dot) (hl : l.length ≤ 2 ^ 40) : ACalls Try.prog Nm.slices_Clone_api_Dot_api_Dot [dotsA l] [] (dotsA l) [] :=
  (cloneD_walk (l.map dotA) (by simpa using hl)).drop (dropL rfl)
theorem cloneV_list (l : List Int) (hl : l.length ≤ 2 ^ 40) : ACalls Try.prog Nm.slices_Clone_api_Vec_int [ints l] [] (ints l) [] :=
  (cloneV_walk l hl).drop (dropL (by simp))
theorem cloneT_list (l : List Txn) (hl : l.length ≤ 2 ^ 40) : ACalls Try.prog Nm.slices_Clone_api_Txn_api_Txn [txnsA l] [] (txnsA l) [] :=
  (cloneT_walk (l.map txnA) (by simpa using hl)).drop (dropL rfl)

def effsOnly (l : List Eff) (z : List (List UInt8)) : List Eff := l.filter fun e => z.any (begins e.key)
def smEff (e : Eff) : Prop := e.key.length ≤ 2 ^ 40 ∧ e.field.length ≤ 2 ^ 40 ∧ e.elem.length ≤ 2 ^ 40 ∧ e.drops.length ≤ 2 ^ 40
theorem filter_take {α : Type} (p : α → Bool) (l : List α) {i : Nat} (h : i < l.length) : (l.take (i + 1)).filter p = if p l[i] then (l.take i).filter p ++ [l[i]] else (l.take i).filter p := by
  rw [List.take_succ_eq_append_getElem h, List.filter_append]
  cases hp : p l[i] <;> simp [hp]
theorem effOnly_walk (l : List Eff) (z : List (List UInt8)) (hl : l.length ≤ 2 ^ 38) (hz : z.length ≤ 2 ^ 40) (hx : ∀ e ∈ l, smEff e) : ACalls Try.prog Nm.eff_Only [effsA l, strsA z] [] (effsA (effsOnly l z)) [] := by
  refine ACalls_of tab (dr_snd tab mixed) Nm.eff_Only_h rfl (by kernel_rfl) (Nat.le_of_ble_eq_true rfl) rfl ?_
  let p : Eff → Bool := fun e => z.any (begins e.key)
  have hp0 : effsOnly l z = l.filter p := rfl
  refine NLoop.mk [(5, .agg 7)] [1, 5, 8, 9, 10] (fun m vs H => ∃ i, i ≤ l.length ∧ m = l.length - i ∧ H = [.row .vrow (.agg 7) (((l.take i).filter p).map effA)] ∧ vs = [strsA z, .own 0 0 (((l.take i).filter p).map effA).length, effsA l, i64 l.length, i64 i]) rfl ?_ ?_
  · exact Canon.mk [0] rfl ⟨l.length, 0, Nat.zero_le _, rfl, rfl, by simp [effsA, strsA, i64]⟩
  · rintro m vs H ⟨i, hi, rfl, rfl, rfl⟩
    by_cases hil : i < l.length
    · have hs := filter_take p l hil
      have hfl : ((l.take i).filter p).length ≤ i := Nat.le_trans (List.length_filter_le _ _) (by simp; omega)
      obtain ⟨x1, x2, x3, x4⟩ := hx _ (List.getElem_mem hil)
      have hc := covers_walk z l[i].key hz (by omega)
      have hd := cloneD_list l[i].drops x4
      cases hp : p l[i] with
      | true =>
        rw [show z.any (begins l[i].key) = true from hp] at hc
        rw [hp, if_pos rfl] at hs
        refine ND.yes (by omega) ?_
        refine NP.mk (by omega) ?_
        refine NG.mapN (by omega) ?_
        refine NCall.call (hc) rfl rfl ?_
        refine NCall.call (hd) rfl rfl ?_
        refine NFz.own ?_
        refine NApp.endA rfl (by simp; omega) ?_
        refine NW.i64 (by omega) (by omega) ?_
        exact Canon.mk [2] rfl ⟨l.length - (i + 1), by omega, i + 1, by omega, rfl, by rw [hs, List.map_append]; rfl, by rw [hs, List.map_append]; rfl⟩
      | false =>
        rw [show z.any (begins l[i].key) = false from hp] at hc
        rw [hp, if_neg (by simp)] at hs
        refine ND.yes (by omega) ?_
        refine NP.mk (by omega) ?_
        refine NG.mapN (by omega) ?_
        refine NCall.call (hc) rfl rfl ?_
        refine NW.i64 (by omega) (by omega) ?_
        exact Canon.mk [0] rfl ⟨l.length - (i + 1), by omega, i + 1, by omega, rfl, by rw [hs], by rw [hs]; rfl⟩
    · have : i = l.length := by omega
      subst this
      rw [List.take_length]
      refine ND.no (by omega) ?_
      exact NRet.mk [] rfl (NFrz.mk ((l.filter p).map effA) (by simp) (by rw [List.drop_zero, List.take_length]) ⟨.refl _, rfl⟩)
end Go.Bv
