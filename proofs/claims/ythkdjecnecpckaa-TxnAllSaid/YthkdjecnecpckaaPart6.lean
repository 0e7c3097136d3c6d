/- Part of the lift: an abstract walk of the program's code, proved sound, and what it shows of this program. -/
import Derived.Test.YthkdjecnecpckaaPart5
namespace Go.Bv
set_option linter.unusedSimpArgs false
set_option linter.unusedVariables false
set_option maxHeartbeats 4000000
open Go Go.Proofs

theorem prefix_walk (s : List UInt8) (hs : s.length ≤ 2 ^ 47) : ACalls Try.prog Nm.zone_prefix [.str s] [] (.bool (pref s)) [] := by
  refine ACalls_of tab (dr_snd tab mixed) Nm.zone_prefix_h rfl (by kernel_rfl) (Nat.le_of_ble_eq_true rfl) rfl ?_
  rw [pref]
  by_cases h : s.length ≤ 16
  · rw [decide_eq_true h, Bool.true_and]
    refine ND.no (by omega) ?_
    refine NLoop.mk [] [0, 8, 9, 10] (fun m vs H => ∃ i, i ≤ s.length ∧ m = s.length - i ∧ (∀ x ∈ s.take i, okc x = true) ∧ H = [] ∧ vs = [.str s, .str s, i64 s.length, i64 i]) rfl ?_ ?_
    · exact Canon.mk [] rfl ⟨s.length, 0, Nat.zero_le _, rfl, by simp, rfl, rfl⟩
    · rintro m vs H ⟨i, hi, rfl, ht, rfl, rfl⟩
      by_cases hil : i < s.length
      · obtain ⟨f1, f2⟩ := all_step hil ht
        have fin : okc s[i] = true → ∃ m', m' < s.length - i ∧ ∃ i', i' ≤ s.length ∧ m' = s.length - i' ∧ (∀ x ∈ s.take i', okc x = true) ∧ ([] : List Blk) = [] ∧ [AV.str s, .str s, i64 s.length, i64 ((i + 1 : Nat) : Int)] = [.str s, .str s, i64 s.length, i64 i'] := fun h =>
          ⟨s.length - (i + 1), by omega, i + 1, by omega, rfl, f2 h, rfl, rfl⟩
        refine ND.yes (by omega) ?_
        refine NP.mk (by omega) ?_
        refine NB.dec (fun hk2 => ?_) (fun hk2 => ?_)
        · refine NB.dec (fun hk3 => ?_) (fun hk3 => ?_)
          · refine NB.dec (fun hk4 => ?_) (fun hk4 => ?_)
            · refine NW.i64 (by omega) (by omega) ?_
              exact (Canon.mk [] rfl (fin (by grind [okc])))
            refine NRet.boolE (b := false) ?_ (NRet.mk [] rfl ⟨.refl _, rfl⟩)
            grind [okc, pref]
          refine NB.dec (fun hk5 => ?_) (fun hk5 => ?_)
          · refine ND.no (by omega) ?_
            refine NRet.boolE (b := false) ?_ (NRet.mk [] rfl ⟨.refl _, rfl⟩)
            grind [okc, pref]
          refine NW.i64 (by omega) (by omega) ?_
          exact (Canon.mk [] rfl (fin (by grind [okc])))
        refine NB.dec (fun hk7 => ?_) (fun hk7 => ?_)
        · refine ND.no (by omega) ?_
          refine ND.yes (by omega) ?_
          refine ND.no (by omega) ?_
          refine NRet.boolE (b := false) ?_ (NRet.mk [] rfl ⟨.refl _, rfl⟩)
          grind [okc, pref]
        refine NW.i64 (by omega) (by omega) ?_
        exact (Canon.mk [] rfl (fin (by grind [okc])))
      · have : i = s.length := by omega
        subst this
        rw [all_end ht]
        refine ND.no (by omega) ?_
        exact NRet.mk [] rfl ⟨.refl _, rfl⟩
  · rw [decide_eq_false h, Bool.false_and]
    refine ND.yes (by omega) ?_
    exact NRet.mk [] rfl ⟨.refl _, rfl⟩
theorem key_walk (s : List UInt8) (hs : s.length ≤ 2 ^ 47) : ACalls Try.prog Nm.zone_Key [.str s] [] (.bool (keyB s)) [] := by
  refine ACalls_of tab (dr_snd tab mixed) Nm.zone_Key_h rfl (by kernel_rfl) (Nat.le_of_ble_eq_true rfl) rfl ?_
  rw [keyB]
  refine NB.dec (fun hk1 => ?_) (fun hk1 => ?_)
  · refine NRet.boolE (b := false) ?_ (NRet.mk [] rfl ⟨.refl _, rfl⟩)
    grind
  refine NCall.call (prefix_walk s hs) rfl rfl ?_
  refine NRet.boolE ?_ (NRet.mk [] rfl ⟨.refl _, rfl⟩)
  grind
theorem prefix8_walk (s : List UInt8) (hs : s.length ≤ 2 ^ 47) : ACalls Try.prog Nm.ref08_Prefix [.str s] [] (.bool (pref s)) [] := by
  refine ACalls_of tab (dr_snd tab mixed) Nm.ref08_Prefix_h rfl (by kernel_rfl) (Nat.le_of_ble_eq_true rfl) rfl ?_
  refine NLoop.mk [] [0, 3] (fun m vs H => ∃ i, i ≤ s.length ∧ m = s.length - i ∧ (∀ x ∈ s.take i, okc x = true) ∧ H = [] ∧ vs = [.str s, i64 i]) rfl ?_ ?_
  · exact Canon.mk [] rfl ⟨s.length, 0, Nat.zero_le _, rfl, by simp, rfl, rfl⟩
  · rintro m vs H ⟨i, hi, rfl, ht, rfl, rfl⟩
    by_cases hil : i < s.length
    · obtain ⟨f1, f2⟩ := all_step hil ht
      have fin : okc s[i] = true → ∃ m', m' < s.length - i ∧ ∃ i', i' ≤ s.length ∧ m' = s.length - i' ∧ (∀ x ∈ s.take i', okc x = true) ∧ ([] : List Blk) = [] ∧ [AV.str s, i64 ((i + 1 : Nat) : Int)] = [.str s, i64 i'] := fun h =>
        ⟨s.length - (i + 1), by omega, i + 1, by omega, rfl, f2 h, rfl, rfl⟩
      refine ND.yes (by omega) ?_
      refine NP.mk (by omega) ?_
      refine NB.dec (fun hk2 => ?_) (fun hk2 => ?_)
      · refine NW.i64 (by omega) (by omega) ?_
        exact (Canon.mk [] rfl (fin (by grind [okc])))
      refine NB.dec (fun hk3 => ?_) (fun hk3 => ?_)
      · refine NB.dec (fun hk4 => ?_) (fun hk4 => ?_)
        · refine NW.i64 (by omega) (by omega) ?_
          exact (Canon.mk [] rfl (fin (by grind [okc])))
        refine NB.dec (fun hk5 => ?_) (fun hk5 => ?_)
        · refine NB.dec (fun hk6 => ?_) (fun hk6 => ?_)
          · refine NW.i64 (by omega) (by omega) ?_
            exact (Canon.mk [] rfl (fin (by grind [okc])))
          refine NRet.boolE (b := false) ?_ (NRet.mk [] rfl ⟨.refl _, rfl⟩)
          grind [okc, pref]
        refine NRet.boolE (b := false) ?_ (NRet.mk [] rfl ⟨.refl _, rfl⟩)
        grind [okc, pref]
      refine ND.no (by omega) ?_
      refine NRet.boolE (b := false) ?_ (NRet.mk [] rfl ⟨.refl _, rfl⟩)
      grind [okc, pref]
    · have : i = s.length := by omega
      subst this
      rw [pref]
      rw [all_end ht]
      refine ND.no (by omega) ?_
      refine NB.dec (fun hk2 => ?_) (fun hk2 => ?_)
      · refine NRet.boolE (b := true) ?_ (NRet.mk [] rfl ⟨.refl _, rfl⟩)
        grind
      refine NRet.boolE (b := false) ?_ (NRet.mk [] rfl ⟨.refl _, rfl⟩)
      grind
theorem key8_walk (s : List UInt8) (hs : s.length ≤ 2 ^ 47) : ACalls Try.prog Nm.ref08_Key [.str s] [] (.bool (keyB s)) [] := by
  refine ACalls_of tab (dr_snd tab mixed) Nm.ref08_Key_h rfl (by kernel_rfl) (Nat.le_of_ble_eq_true rfl) rfl ?_
  rw [keyB]
  by_cases h : s = []
  · subst h
    refine ND.no (by (simp only [List.length_map, List.length_append, List.length_replicate, List.length_cons, List.length_nil, List.length_take, List.length_drop]; omega)) ?_
    exact NRet.mk [] rfl ⟨.refl _, rfl⟩
  · have := List.length_pos_iff.2 h
    rw [decide_eq_true h, Bool.true_and]
    refine ND.yes (by omega) ?_
    refine NCall.call (prefix8_walk s hs) rfl rfl ?_
    exact NRet.mk [] rfl ⟨.refl _, rfl⟩
def smItem (x : Item) : Prop := x.key.length ≤ 2 ^ 40 ∧ x.field.length ≤ 2 ^ 40 ∧ x.elem.length ≤ 2 ^ 40
theorem itemFormed_walk (x : Item) (hx : smItem x) : ACalls Try.prog Nm.item_Formed [itemA x] [] (.bool (itemOk x)) [] := by
  refine ACalls_of tab (dr_snd tab mixed) Nm.item_Formed_h rfl (by kernel_rfl) (Nat.le_of_ble_eq_true rfl) rfl ?_
  obtain ⟨h1, h2, h3⟩ := hx
  have k1 := key_walk x.key (by omega)
  have k2 := key_walk x.field (by omega)
  refine NCall.call (k1) rfl rfl ?_
  refine NB.mk (fun hk1 => ?_) (fun hk1 => ?_)
  · refine NB.dec (fun hk2 => ?_) (fun hk2 => ?_)
    · refine NB.dec (fun hk3 => ?_) (fun hk3 => ?_)
      · refine NRet.boolE (b := false) ?_ (NRet.mk [] rfl ⟨.refl _, rfl⟩)
        grind [itemOk, kindOk, dotOk, keyB, pref]
      refine NB.dec (fun hk4 => ?_) (fun hk4 => ?_)
      · refine NB.dec (fun hk5 => ?_) (fun hk5 => ?_)
        · refine NB.dec (fun hk6 => ?_) (fun hk6 => ?_)
          · refine NB.dec (fun hk7 => ?_) (fun hk7 => ?_)
            · refine NB.dec (fun hk8 => ?_) (fun hk8 => ?_)
              · refine NB.dec (fun hk9 => ?_) (fun hk9 => ?_)
                · refine NB.dec (fun hk10 => ?_) (fun hk10 => ?_)
                  · refine NB.dec (fun hk11 => ?_) (fun hk11 => ?_)
                    · refine NRet.boolE (b := true) ?_ (NRet.mk [] rfl ⟨.refl _, rfl⟩)
                      grind [itemOk, kindOk, dotOk, keyB, pref]
                    refine NRet.boolE (b := false) ?_ (NRet.mk [] rfl ⟨.refl _, rfl⟩)
                    grind [itemOk, kindOk, dotOk, keyB, pref]
                  refine NRet.boolE (b := false) ?_ (NRet.mk [] rfl ⟨.refl _, rfl⟩)
                  grind [itemOk, kindOk, dotOk, keyB, pref]
                refine NRet.boolE (b := false) ?_ (NRet.mk [] rfl ⟨.refl _, rfl⟩)
                grind [itemOk, kindOk, dotOk, keyB, pref]
              refine NRet.boolE (b := false) ?_ (NRet.mk [] rfl ⟨.refl _, rfl⟩)
              grind [itemOk, kindOk, dotOk, keyB, pref]
            refine NRet.boolE (b := false) ?_ (NRet.mk [] rfl ⟨.refl _, rfl⟩)
            grind [itemOk, kindOk, dotOk, keyB, pref]
          refine NRet.boolE (b := false) ?_ (NRet.mk [] rfl ⟨.refl _, rfl⟩)
          grind [itemOk, kindOk, dotOk, keyB, pref]
        refine NRet.boolE (b := false) ?_ (NRet.mk [] rfl ⟨.refl _, rfl⟩)
        grind [itemOk, kindOk, dotOk, keyB, pref]
      refine NB.dec (fun hk12 => ?_) (fun hk12 => ?_)
      · refine NB.dec (fun hk13 => ?_) (fun hk13 => ?_)
        · refine NB.dec (fun hk14 => ?_) (fun hk14 => ?_)
          · refine NB.dec (fun hk15 => ?_) (fun hk15 => ?_)
            · refine NB.dec (fun hk16 => ?_) (fun hk16 => ?_)
              · refine NB.dec (fun hk17 => ?_) (fun hk17 => ?_)
                · refine NB.dec (fun hk18 => ?_) (fun hk18 => ?_)
                  · refine NB.dec (fun hk19 => ?_) (fun hk19 => ?_)
                    · refine NRet.boolE (b := true) ?_ (NRet.mk [] rfl ⟨.refl _, rfl⟩)
                      grind [itemOk, kindOk, dotOk, keyB, pref]
                    refine NRet.boolE (b := false) ?_ (NRet.mk [] rfl ⟨.refl _, rfl⟩)
                    grind [itemOk, kindOk, dotOk, keyB, pref]
                  refine NRet.boolE (b := false) ?_ (NRet.mk [] rfl ⟨.refl _, rfl⟩)
                  grind [itemOk, kindOk, dotOk, keyB, pref]
                refine NRet.boolE (b := false) ?_ (NRet.mk [] rfl ⟨.refl _, rfl⟩)
                grind [itemOk, kindOk, dotOk, keyB, pref]
              refine NRet.boolE (b := false) ?_ (NRet.mk [] rfl ⟨.refl _, rfl⟩)
              grind [itemOk, kindOk, dotOk, keyB, pref]
            refine NRet.boolE (b := false) ?_ (NRet.mk [] rfl ⟨.refl _, rfl⟩)
            grind [itemOk, kindOk, dotOk, keyB, pref]
          refine NRet.boolE (b := false) ?_ (NRet.mk [] rfl ⟨.refl _, rfl⟩)
          grind [itemOk, kindOk, dotOk, keyB, pref]
        refine NRet.boolE (b := false) ?_ (NRet.mk [] rfl ⟨.refl _, rfl⟩)
        grind [itemOk, kindOk, dotOk, keyB, pref]
      refine NB.dec (fun hk20 => ?_) (fun hk20 => ?_)
      · refine NB.dec (fun hk21 => ?_) (fun hk21 => ?_)
        · refine NB.dec (fun hk22 => ?_) (fun hk22 => ?_)
          · refine NB.dec (fun hk23 => ?_) (fun hk23 => ?_)
            · refine NB.dec (fun hk24 => ?_) (fun hk24 => ?_)
              · refine NB.dec (fun hk25 => ?_) (fun hk25 => ?_)
                · refine NB.dec (fun hk26 => ?_) (fun hk26 => ?_)
                  · refine NB.dec (fun hk27 => ?_) (fun hk27 => ?_)
                    · refine NRet.boolE (b := true) ?_ (NRet.mk [] rfl ⟨.refl _, rfl⟩)
                      grind [itemOk, kindOk, dotOk, keyB, pref]
                    refine NRet.boolE (b := false) ?_ (NRet.mk [] rfl ⟨.refl _, rfl⟩)
                    grind [itemOk, kindOk, dotOk, keyB, pref]
                  refine NRet.boolE (b := false) ?_ (NRet.mk [] rfl ⟨.refl _, rfl⟩)
                  grind [itemOk, kindOk, dotOk, keyB, pref]
                refine NRet.boolE (b := false) ?_ (NRet.mk [] rfl ⟨.refl _, rfl⟩)
                grind [itemOk, kindOk, dotOk, keyB, pref]
              refine NRet.boolE (b := false) ?_ (NRet.mk [] rfl ⟨.refl _, rfl⟩)
              grind [itemOk, kindOk, dotOk, keyB, pref]
            refine NRet.boolE (b := false) ?_ (NRet.mk [] rfl ⟨.refl _, rfl⟩)
            grind [itemOk, kindOk, dotOk, keyB, pref]
          refine NRet.boolE (b := false) ?_ (NRet.mk [] rfl ⟨.refl _, rfl⟩)
          grind [itemOk, kindOk, dotOk, keyB, pref]
        refine NRet.boolE (b := false) ?_ (NRet.mk [] rfl ⟨.refl _, rfl⟩)
        grind [itemOk, kindOk, dotOk, keyB, pref]
      refine NRet.boolE (b := false) ?_ (NRet.mk [] rfl ⟨.refl _, rfl⟩)
      grind [itemOk, kindOk, dotOk, keyB, pref]
    refine NCall.call (k2) rfl rfl ?_
    refine NB.mk (fun hk28 => ?_) (fun hk28 => ?_)
    · refine NB.dec (fun hk29 => ?_) (fun hk29 => ?_)
      · refine NRet.boolE (b := false) ?_ (NRet.mk [] rfl ⟨.refl _, rfl⟩)
        grind [itemOk, kindOk, dotOk, keyB, pref]
      refine NB.dec (fun hk30 => ?_) (fun hk30 => ?_)
      · refine NB.dec (fun hk31 => ?_) (fun hk31 => ?_)
        · refine NB.dec (fun hk32 => ?_) (fun hk32 => ?_)
          · refine NB.dec (fun hk33 => ?_) (fun hk33 => ?_)
            · refine NB.dec (fun hk34 => ?_) (fun hk34 => ?_)
              · refine NB.dec (fun hk35 => ?_) (fun hk35 => ?_)
                · refine NB.dec (fun hk36 => ?_) (fun hk36 => ?_)
                  · refine NB.dec (fun hk37 => ?_) (fun hk37 => ?_)
                    · refine NRet.boolE (b := true) ?_ (NRet.mk [] rfl ⟨.refl _, rfl⟩)
                      grind [itemOk, kindOk, dotOk, keyB, pref]
                    refine NRet.boolE (b := false) ?_ (NRet.mk [] rfl ⟨.refl _, rfl⟩)
                    grind [itemOk, kindOk, dotOk, keyB, pref]
                  refine NRet.boolE (b := false) ?_ (NRet.mk [] rfl ⟨.refl _, rfl⟩)
                  grind [itemOk, kindOk, dotOk, keyB, pref]
                refine NRet.boolE (b := false) ?_ (NRet.mk [] rfl ⟨.refl _, rfl⟩)
                grind [itemOk, kindOk, dotOk, keyB, pref]
              refine NRet.boolE (b := false) ?_ (NRet.mk [] rfl ⟨.refl _, rfl⟩)
              grind [itemOk, kindOk, dotOk, keyB, pref]
            refine NRet.boolE (b := false) ?_ (NRet.mk [] rfl ⟨.refl _, rfl⟩)
            grind [itemOk, kindOk, dotOk, keyB, pref]
          refine NRet.boolE (b := false) ?_ (NRet.mk [] rfl ⟨.refl _, rfl⟩)
          grind [itemOk, kindOk, dotOk, keyB, pref]
        refine NRet.boolE (b := false) ?_ (NRet.mk [] rfl ⟨.refl _, rfl⟩)
        grind [itemOk, kindOk, dotOk, keyB, pref]
      refine NB.dec (fun hk38 => ?_) (fun hk38 => ?_)
      · refine NB.dec (fun hk39 => ?_) (fun hk39 => ?_)
        · refine NB.dec (fun hk40 => ?_) (fun hk40 => ?_)
          · refine NB.dec (fun hk41 => ?_) (fun hk41 => ?_)
            · refine NB.dec (fun hk42 => ?_) (fun hk42 => ?_)
              · refine NB.dec (fun hk43 => ?_) (fun hk43 => ?_)
                · refine NB.dec (fun hk44 => ?_) (fun hk44 => ?_)
                  · refine NB.dec (fun hk45 => ?_) (fun hk45 => ?_)
                    · refine NRet.boolE (b := true) ?_ (NRet.mk [] rfl ⟨.refl _, rfl⟩)
                      grind [itemOk, kindOk, dotOk, keyB, pref]
                    refine NRet.boolE (b := false) ?_ (NRet.mk [] rfl ⟨.refl _, rfl⟩)
                    grind [itemOk, kindOk, dotOk, keyB, pref]
                  refine NRet.boolE (b := false) ?_ (NRet.mk [] rfl ⟨.refl _, rfl⟩)
                  grind [itemOk, kindOk, dotOk, keyB, pref]
                refine NRet.boolE (b := false) ?_ (NRet.mk [] rfl ⟨.refl _, rfl⟩)
                grind [itemOk, kindOk, dotOk, keyB, pref]
              refine NRet.boolE (b := false) ?_ (NRet.mk [] rfl ⟨.refl _, rfl⟩)
              grind [itemOk, kindOk, dotOk, keyB, pref]
            refine NRet.boolE (b := false) ?_ (NRet.mk [] rfl ⟨.refl _, rfl⟩)
            grind [itemOk, kindOk, dotOk, keyB, pref]
          refine NRet.boolE (b := false) ?_ (NRet.mk [] rfl ⟨.refl _, rfl⟩)
          grind [itemOk, kindOk, dotOk, keyB, pref]
        refine NRet.boolE (b := false) ?_ (NRet.mk [] rfl ⟨.refl _, rfl⟩)
        grind [itemOk, kindOk, dotOk, keyB, pref]
      refine NB.dec (fun hk46 => ?_) (fun hk46 => ?_)
      · refine NB.dec (fun hk47 => ?_) (fun hk47 => ?_)
        · refine NB.dec (fun hk48 => ?_) (fun hk48 => ?_)
          · refine NB.dec (fun hk49 => ?_) (fun hk49 => ?_)
            · refine NB.dec (fun hk50 => ?_) (fun hk50 => ?_)
              · refine NB.dec (fun hk51 => ?_) (fun hk51 => ?_)
                · refine NB.dec (fun hk52 => ?_) (fun hk52 => ?_)
                  · refine NB.dec (fun hk53 => ?_) (fun hk53 => ?_)
                    · refine NRet.boolE (b := true) ?_ (NRet.mk [] rfl ⟨.refl _, rfl⟩)
                      grind [itemOk, kindOk, dotOk, keyB, pref]
                    refine NRet.boolE (b := false) ?_ (NRet.mk [] rfl ⟨.refl _, rfl⟩)
                    grind [itemOk, kindOk, dotOk, keyB, pref]
                  refine NRet.boolE (b := false) ?_ (NRet.mk [] rfl ⟨.refl _, rfl⟩)
                  grind [itemOk, kindOk, dotOk, keyB, pref]
                refine NRet.boolE (b := false) ?_ (NRet.mk [] rfl ⟨.refl _, rfl⟩)
                grind [itemOk, kindOk, dotOk, keyB, pref]
              refine NRet.boolE (b := false) ?_ (NRet.mk [] rfl ⟨.refl _, rfl⟩)
              grind [itemOk, kindOk, dotOk, keyB, pref]
            refine NRet.boolE (b := false) ?_ (NRet.mk [] rfl ⟨.refl _, rfl⟩)
            grind [itemOk, kindOk, dotOk, keyB, pref]
          refine NRet.boolE (b := false) ?_ (NRet.mk [] rfl ⟨.refl _, rfl⟩)
          grind [itemOk, kindOk, dotOk, keyB, pref]
        refine NRet.boolE (b := false) ?_ (NRet.mk [] rfl ⟨.refl _, rfl⟩)
        grind [itemOk, kindOk, dotOk, keyB, pref]
      refine NRet.boolE (b := false) ?_ (NRet.mk [] rfl ⟨.refl _, rfl⟩)
      grind [itemOk, kindOk, dotOk, keyB, pref]
    refine NRet.boolE (b := false) ?_ (NRet.mk [] rfl ⟨.refl _, rfl⟩)
    grind [itemOk, kindOk, dotOk, keyB, pref]
  refine NRet.boolE (b := false) ?_ (NRet.mk [] rfl ⟨.refl _, rfl⟩)
  grind [itemOk, kindOk, dotOk, keyB, pref]
theorem item9_walk (x : Item) (hx : smItem x) : ACalls Try.prog Nm.ref09_Formed [itemA x] [] (.bool (itemOk x)) [] := by
  refine ACalls_of tab (dr_snd tab mixed) Nm.ref09_Formed_h rfl (by kernel_rfl) (Nat.le_of_ble_eq_true rfl) rfl ?_
  obtain ⟨h1, h2, h3⟩ := hx
  have k1 := key8_walk x.key (by omega)
  have k2 := prefix8_walk x.field (by omega)
  refine NB.dec (fun hk1 => ?_) (fun hk1 => ?_)
  · refine NRet.boolE (b := false) ?_ (NRet.mk [] rfl ⟨.refl _, rfl⟩)
    grind [itemOk, kindOk, dotOk, keyB, pref]
  refine NB.dec (fun hk2 => ?_) (fun hk2 => ?_)
  · refine NRet.boolE (b := false) ?_ (NRet.mk [] rfl ⟨.refl _, rfl⟩)
    grind [itemOk, kindOk, dotOk, keyB, pref]
  refine NB.dec (fun hk3 => ?_) (fun hk3 => ?_)
  · refine NRet.boolE (b := false) ?_ (NRet.mk [] rfl ⟨.refl _, rfl⟩)
    grind [itemOk, kindOk, dotOk, keyB, pref]
  refine NB.dec (fun hk4 => ?_) (fun hk4 => ?_)
  · refine NRet.boolE (b := false) ?_ (NRet.mk [] rfl ⟨.refl _, rfl⟩)
    grind [itemOk, kindOk, dotOk, keyB, pref]
  refine NB.dec (fun hk5 => ?_) (fun hk5 => ?_)
  · refine NRet.boolE (b := false) ?_ (NRet.mk [] rfl ⟨.refl _, rfl⟩)
    grind [itemOk, kindOk, dotOk, keyB, pref]
  refine NB.dec (fun hk6 => ?_) (fun hk6 => ?_)
  · refine NRet.boolE (b := false) ?_ (NRet.mk [] rfl ⟨.refl _, rfl⟩)
    grind [itemOk, kindOk, dotOk, keyB, pref]
  refine NCall.call (k1) rfl rfl ?_
  refine NB.mk (fun hk7 => ?_) (fun hk7 => ?_)
  · refine NCall.call (k2) rfl rfl ?_
    refine NB.mk (fun hk8 => ?_) (fun hk8 => ?_)
    · refine NB.dec (fun hk9 => ?_) (fun hk9 => ?_)
      · refine NRet.boolE (b := false) ?_ (NRet.mk [] rfl ⟨.refl _, rfl⟩)
        grind [itemOk, kindOk, dotOk, keyB, pref]
      refine NB.dec (fun hk10 => ?_) (fun hk10 => ?_)
      · refine NB.dec (fun hk11 => ?_) (fun hk11 => ?_)
        · refine NRet.boolE (b := true) ?_ (NRet.mk [] rfl ⟨.refl _, rfl⟩)
          grind [itemOk, kindOk, dotOk, keyB, pref]
        refine ND.no (by omega) ?_
        refine NRet.boolE (b := false) ?_ (NRet.mk [] rfl ⟨.refl _, rfl⟩)
        grind [itemOk, kindOk, dotOk, keyB, pref]
      refine NB.dec (fun hk13 => ?_) (fun hk13 => ?_)
      · refine NB.dec (fun hk14 => ?_) (fun hk14 => ?_)
        · refine NRet.boolE (b := true) ?_ (NRet.mk [] rfl ⟨.refl _, rfl⟩)
          grind [itemOk, kindOk, dotOk, keyB, pref]
        refine ND.no (by omega) ?_
        refine NRet.boolE (b := false) ?_ (NRet.mk [] rfl ⟨.refl _, rfl⟩)
        grind [itemOk, kindOk, dotOk, keyB, pref]
      refine NB.dec (fun hk16 => ?_) (fun hk16 => ?_)
      · refine NB.dec (fun hk17 => ?_) (fun hk17 => ?_)
        · refine NRet.boolE (b := true) ?_ (NRet.mk [] rfl ⟨.refl _, rfl⟩)
          grind (splits := 20) [itemOk, kindOk, dotOk, keyB, pref, List.length_eq_zero_iff]
        refine NRet.boolE (b := false) ?_ (NRet.mk [] rfl ⟨.refl _, rfl⟩)
        grind [itemOk, kindOk, dotOk, keyB, pref]
      refine NRet.boolE (b := false) ?_ (NRet.mk [] rfl ⟨.refl _, rfl⟩)
      grind [itemOk, kindOk, dotOk, keyB, pref]
    refine NRet.boolE (b := false) ?_ (NRet.mk [] rfl ⟨.refl _, rfl⟩)
    grind [itemOk, kindOk, dotOk, keyB, pref]
  refine NRet.boolE (b := false) ?_ (NRet.mk [] rfl ⟨.refl _, rfl⟩)
  grind [itemOk, kindOk, dotOk, keyB, pref]
theorem dot_walk' (d : Dot) : ACalls Try.prog Nm.eff_dot [dotA d] [] (.bool (dotOk d)) [] := by
  refine ACalls_of tab (dr_snd tab mixed) Nm.eff_dot_h rfl (by kernel_rfl) (Nat.le_of_ble_eq_true rfl) rfl ?_
  rw [dotOk]
  refine NB.dec (fun hk1 => ?_) (fun hk1 => ?_)
  · refine NB.dec (fun hk2 => ?_) (fun hk2 => ?_)
    · refine NB.dec (fun hk3 => ?_) (fun hk3 => ?_)
      · refine NB.dec (fun hk4 => ?_) (fun hk4 => ?_)
        · refine NB.dec (fun hk5 => ?_) (fun hk5 => ?_)
          · refine NB.dec (fun hk6 => ?_) (fun hk6 => ?_)
            · refine NRet.boolE (b := true) ?_ (NRet.mk [] rfl ⟨.refl _, rfl⟩)
              (simp only [decide_eq_true_eq, decide_eq_false_iff_not, eq_comm (a := true), eq_comm (a := false)]; omega)
            refine NRet.boolE (b := false) ?_ (NRet.mk [] rfl ⟨.refl _, rfl⟩)
            (simp only [decide_eq_true_eq, decide_eq_false_iff_not, eq_comm (a := true), eq_comm (a := false)]; omega)
          refine NRet.boolE (b := false) ?_ (NRet.mk [] rfl ⟨.refl _, rfl⟩)
          (simp only [decide_eq_true_eq, decide_eq_false_iff_not, eq_comm (a := true), eq_comm (a := false)]; omega)
        refine NRet.boolE (b := false) ?_ (NRet.mk [] rfl ⟨.refl _, rfl⟩)
        (simp only [decide_eq_true_eq, decide_eq_false_iff_not, eq_comm (a := true), eq_comm (a := false)]; omega)
      refine NRet.boolE (b := false) ?_ (NRet.mk [] rfl ⟨.refl _, rfl⟩)
      (simp only [decide_eq_true_eq, decide_eq_false_iff_not, eq_comm (a := true), eq_comm (a := false)]; omega)
    refine NRet.boolE (b := false) ?_ (NRet.mk [] rfl ⟨.refl _, rfl⟩)
    (simp only [decide_eq_true_eq, decide_eq_false_iff_not, eq_comm (a := true), eq_comm (a := false)]; omega)
  refine NRet.boolE (b := false) ?_ (NRet.mk [] rfl ⟨.refl _, rfl⟩)
  (simp only [decide_eq_true_eq, decide_eq_false_iff_not, eq_comm (a := true), eq_comm (a := false)]; omega)
theorem may10_walk (d : Dot) : ACalls Try.prog Nm.ref10_may [dotA d] [] (.bool (dotOk d)) [] := by
  refine ACalls_of tab (dr_snd tab mixed) Nm.ref10_may_h rfl (by kernel_rfl) (Nat.le_of_ble_eq_true rfl) rfl ?_
  have e : itemOk ⟨[97], [], 1, [], 0, d⟩ = dotOk d := by simp [itemOk, keyB, pref, okc, kindOk]
  have h := item9_walk ⟨[97], [], 1, [], 0, d⟩ ⟨by simp, by simp, by simp⟩
  rw [e] at h
  refine NCall.call (h) rfl rfl ?_
  exact NRet.mk [] rfl ⟨.refl _, rfl⟩
theorem ahead10_walk (a b : Dot) : ACalls Try.prog Nm.ref10_Ahead [dotA a, dotA b] [] (.bool (dlt a b)) [] := by
  refine ACalls_of tab (dr_snd tab mixed) Nm.ref10_Ahead_h rfl (by kernel_rfl) (Nat.le_of_ble_eq_true rfl) rfl ?_
  rw [dlt]
  refine NB.dec (fun hk1 => ?_) (fun hk1 => ?_)
  · refine NB.dec (fun hk2 => ?_) (fun hk2 => ?_)
    · refine NB.dec (fun hk3 => ?_) (fun hk3 => ?_)
      · refine NRet.boolE (b := true) ?_ (NRet.mk [] rfl ⟨.refl _, rfl⟩)
        (simp only [decide_eq_true_eq, decide_eq_false_iff_not, eq_comm (a := true), eq_comm (a := false)]; omega)
      refine NRet.boolE (b := false) ?_ (NRet.mk [] rfl ⟨.refl _, rfl⟩)
      (simp only [decide_eq_true_eq, decide_eq_false_iff_not, eq_comm (a := true), eq_comm (a := false)]; omega)
    refine NB.dec (fun hk4 => ?_) (fun hk4 => ?_)
    · refine NRet.boolE (b := true) ?_ (NRet.mk [] rfl ⟨.refl _, rfl⟩)
      (simp only [decide_eq_true_eq, decide_eq_false_iff_not, eq_comm (a := true), eq_comm (a := false)]; omega)
    refine NRet.boolE (b := false) ?_ (NRet.mk [] rfl ⟨.refl _, rfl⟩)
    (simp only [decide_eq_true_eq, decide_eq_false_iff_not, eq_comm (a := true), eq_comm (a := false)]; omega)
  refine NB.dec (fun hk5 => ?_) (fun hk5 => ?_)
  · refine NRet.boolE (b := true) ?_ (NRet.mk [] rfl ⟨.refl _, rfl⟩)
    (simp only [decide_eq_true_eq, decide_eq_false_iff_not, eq_comm (a := true), eq_comm (a := false)]; omega)
  refine NRet.boolE (b := false) ?_ (NRet.mk [] rfl ⟨.refl _, rfl⟩)
  (simp only [decide_eq_true_eq, decide_eq_false_iff_not, eq_comm (a := true), eq_comm (a := false)]; omega)
theorem made10_walk (node seq : Int) (e : Eff) : ACalls Try.prog Nm.ref10_Made [i64 node, i64 seq, effA e] [] (itemA (made node seq e)) [] := by
  refine ACalls_of tab (dr_snd tab mixed) Nm.ref10_Made_h rfl (by kernel_rfl) (Nat.le_of_ble_eq_true rfl) rfl ?_
  exact NRet.mk [] rfl ⟨.refl _, rfl⟩
def i64s (l : List Int) : AV := .list .leaf (l.map i64)
theorem isNaN_walk (a : Int) : ACalls Try.prog Nm.cmp_isNaN_int [i64 a] [] (.bool false) [] := by
  refine ACalls_of tab (dr_snd tab mixed) Nm.cmp_isNaN_int_h rfl (by kernel_rfl) (Nat.le_of_ble_eq_true rfl) rfl ?_
  refine ND.yes (by omega) ?_
  exact NRet.mk [] rfl ⟨.refl _, rfl⟩
def cmpI (a b : Int) : Int := if a < b then -1 else if b < a then 1 else 0
theorem compare_walk (a b : Int) : ACalls Try.prog Nm.cmp_Compare_int [i64 a, i64 b] [] (i64 (cmpI a b)) [] := by
  refine ACalls_of tab (dr_snd tab mixed) Nm.cmp_Compare_int_h rfl (by kernel_rfl) (Nat.le_of_ble_eq_true rfl) rfl ?_
  have h1 := isNaN_walk a
  have h2 := isNaN_walk b
  rw [cmpI]
  refine NCall.call (h1) rfl rfl ?_
  refine NCall.call (h2) rfl rfl ?_
  refine NB.dec (fun hk1 => ?_) (fun hk1 => ?_)
  · refine NRet.intE ?_ (NRet.mk [] rfl ⟨.refl _, rfl⟩)
    omega
  refine NB.dec (fun hk2 => ?_) (fun hk2 => ?_)
  · refine NRet.intE ?_ (NRet.mk [] rfl ⟨.refl _, rfl⟩)
    omega
  refine NRet.intE ?_ (NRet.mk [] rfl ⟨.refl _, rfl⟩)
  omega
theorem made_walk (node seq : Int) (e : Eff) : ACalls Try.prog Nm.eff_made [i64 node, i64 seq, effA e] [] (itemA (made node seq e)) [] := by
  refine ACalls_of tab (dr_snd tab mixed) Nm.eff_made_h rfl (by kernel_rfl) (Nat.le_of_ble_eq_true rfl) rfl ?_
  exact NRet.mk [] rfl ⟨.refl _, rfl⟩
def orI : List Int → Int
  | [] => 0
  | x :: r => if x = 0 then orI r else x
theorem orI_cons (x : Int) (r : List Int) : orI (x :: r) = if x = 0 then orI r else x := rfl
theorem or_walk (l : List Int) (hl : l.length ≤ 2 ^ 40) : ACalls Try.prog Nm.cmp_Or_int [ints l] [] (i64 (orI l)) [] := by
  refine ACalls_of tab (dr_snd tab mixed) Nm.cmp_Or_int_h rfl (by kernel_rfl) (Nat.le_of_ble_eq_true rfl) rfl ?_
  refine NLoop.mk [] [3, 6, 7, 8] (fun m vs H => ∃ i, i ≤ l.length ∧ m = l.length - i ∧ orI l = orI (l.drop i) ∧ H = [] ∧ vs = [i64 0, ints l, i64 l.length, i64 i]) rfl ?_ ?_
  · exact Canon.mk [] rfl ⟨l.length, 0, Nat.zero_le _, rfl, rfl, rfl, by simp [ints, i64]⟩
  · rintro m vs H ⟨i, hi, rfl, ht, rfl, rfl⟩
    rw [ht]
    by_cases hil : i < l.length
    · rw [List.drop_eq_getElem_cons hil]
      rw [orI_cons]
      by_cases h0 : l[i] = 0
      · rw [if_pos h0]
        refine ND.yes (by omega) ?_
        refine NP.mk (by omega) ?_
        refine NG.mapN (by omega) ?_
        refine ND.yes (by omega) ?_
        refine NW.i64 (by omega) (by omega) ?_
        exact Canon.mk [] rfl ⟨l.length - (i + 1), by omega, i + 1, by omega, rfl, rfl, rfl, rfl⟩
      · rw [if_neg h0]
        refine ND.yes (by omega) ?_
        refine NP.mk (by omega) ?_
        refine NG.mapN (by omega) ?_
        refine ND.no (by omega) ?_
        exact NRet.mk [] rfl ⟨.refl _, rfl⟩
    · rw [List.drop_eq_nil_of_le (by omega)]
      refine ND.no (by omega) ?_
      exact NRet.mk [] rfl ⟨.refl _, rfl⟩
theorem order_walk (a b : Dot) : ACalls Try.prog Nm.eff_order [dotA a, dotA b] [] (i64 (orI [cmpI a.node b.node, cmpI a.seq b.seq, cmpI a.at' b.at'])) [] := by
  refine ACalls_of tab (dr_snd tab mixed) Nm.eff_order_h rfl (by kernel_rfl) (Nat.le_of_ble_eq_true rfl) rfl ?_
  refine NP.mk (by kernel_rfl) ?_
  apply NDr.rd [0]
  · intro fH TH
    exact ⟨rfl, rfl⟩
  apply NDr.rd [0]
  · intro fH TH
    exact ⟨rfl, rfl⟩
  apply NDr.rd [1]
  · intro fH TH
    exact ⟨rfl, rfl⟩
  apply NDr.rd [1]
  · intro fH TH
    exact ⟨rfl, rfl⟩
  apply NDr.pure
  · refine NCall.call (compare_walk a.node b.node) rfl rfl ?_
    exact ⟨rfl, rfl⟩
  apply NDr.rd [0]
  · intro fH TH
    exact ⟨rfl, rfl⟩
  apply NDr.rd [0]
  · intro fH TH
    exact ⟨rfl, rfl⟩
  apply NDr.rd [1]
  · intro fH TH
    exact ⟨rfl, rfl⟩
  apply NDr.rd [1]
  · intro fH TH
    exact ⟨rfl, rfl⟩
  apply NDr.pure
  · refine NCall.call (compare_walk a.seq b.seq) rfl rfl ?_
    exact ⟨rfl, rfl⟩
  apply NDr.rd [0]
  · intro fH TH
    exact ⟨rfl, rfl⟩
  apply NDr.rd [0]
  · intro fH TH
    exact ⟨rfl, rfl⟩
  apply NDr.rd [1]
  · intro fH TH
    exact ⟨rfl, rfl⟩
  apply NDr.rd [1]
  · intro fH TH
    exact ⟨rfl, rfl⟩
  apply NDr.pure
  · refine NCall.call (compare_walk a.at' b.at') rfl rfl ?_
    exact ⟨rfl, rfl⟩
  apply NDr.pure
  · exact ⟨rfl, rfl⟩
  apply NDr.pure
  · refine NCall.call (or_walk [cmpI a.node b.node, cmpI a.seq b.seq, cmpI a.at' b.at'] (by simp)) rfl rfl ?_
    exact ⟨rfl, rfl⟩
  apply NDr.pure
  · exact ⟨rfl, rfl⟩
  refine NP.mk (by kernel_rfl) ?_
  exact NRet.mk [] rfl ⟨.refl _, rfl⟩
theorem order_dlt (a b : Dot) : orI [cmpI a.node b.node, cmpI a.seq b.seq, cmpI a.at' b.at'] < 0 ↔ dlt a b = true := by
  unfold dlt
  rw [decide_eq_true_eq]
  simp only [orI, cmpI]
  grind
/-- One step of a look at all and at all neighbours. -/
def Seen {α : Type} (p : α → Bool) (r : α → α → Bool) (l : List α) (i : Nat) : Prop := (∀ x ∈ l.take i, p x = true) ∧ ∀ (j : Nat) (h : j + 1 < l.length), j + 1 < i → r l[j] l[j + 1] = true
theorem seen0 {α : Type} (p : α → Bool) (r : α → α → Bool) (l : List α) : Seen p r l 0 := ⟨by simp, fun j _ h => by omega⟩
theorem seen_p {α : Type} {p : α → Bool} {r : α → α → Bool} {l : List α} {i : Nat} (h : i < l.length) (hp : p l[i] = false) : (l.all p && adj r l) = false := by
  rw [(List.all_eq_false).2 ⟨l[i], List.getElem_mem h, by simp [hp]⟩, Bool.false_and]
theorem seen_r {α : Type} {p : α → Bool} {r : α → α → Bool} {l : List α} {k : Nat} (h : k + 1 < l.length) (hr : r l[k] l[k + 1] = false) : (l.all p && adj r l) = false := by
  have : adj r l = false := by
    cases hq : adj r l with
    | false => rfl
    | true => rw [(adj_iff r l).1 hq k h] at hr; cases hr
  rw [this, Bool.and_false]
theorem seen_zero {α : Type} {p : α → Bool} {r : α → α → Bool} {l : List α} (h : 0 < l.length) (hp : p l[0] = true) : Seen p r l 1 := by
  refine ⟨fun x hx => ?_, fun j _ h => by omega⟩
  rw [List.take_succ_eq_append_getElem h] at hx
  simp at hx
  rw [hx]; exact hp
theorem seen_succ {α : Type} {p : α → Bool} {r : α → α → Bool} {l : List α} {k : Nat} (h : k + 1 < l.length) (hs : Seen p r l (k + 1)) (hp : p l[k + 1] = true) (hr : r l[k] l[k + 1] = true) : Seen p r l (k + 1 + 1) := by
  obtain ⟨h1, h2⟩ := hs
  refine ⟨(all_step h h1).2 hp, fun j hj hji => ?_⟩
  rcases Nat.lt_or_ge j k with h' | h'
  · exact h2 j hj (by omega)
  · have : j = k := by omega
    subst this; exact hr
theorem seen_end {α : Type} {p : α → Bool} {r : α → α → Bool} {l : List α} (hs : Seen p r l l.length) : (l.all p && adj r l) = true := by
  rw [all_end hs.1, Bool.true_and, adj_iff]
  exact fun i h => hs.2 i h h
def smDots (l : List Dot) : Prop := l.length ≤ 2 ^ 40
theorem smMade {node seq : Int} {e : Eff} (h : smEff e) : smItem (made node seq e) := ⟨h.1, h.2.1, h.2.2.1⟩
theorem effFormed_walk (node seq : Int) (e : Eff) (he : smEff e) : ACalls Try.prog Nm.eff_Formed [i64 node, i64 seq, effA e] [] (.bool (effOk node seq e)) [] := by
  refine ACalls_of tab (dr_snd tab mixed) Nm.eff_Formed_h rfl (by kernel_rfl) (Nat.le_of_ble_eq_true rfl) rfl ?_
  rw [effOk, dropsOk]
  by_cases h : e.drops.length ≤ 64
  · rw [decide_eq_true h, Bool.true_and]
    refine ND.no (by (simp only [List.length_map, List.length_append, List.length_replicate, List.length_cons, List.length_nil, List.length_take, List.length_drop]; omega)) ?_
    refine NLoop.mk [] [0, 1, 2, 5, 15, 16, 17] (fun m vs H => ∃ i, i ≤ e.drops.length ∧ m = e.drops.length - i ∧ Seen dotOk dlt e.drops i ∧ H = [.row .box (.agg 7) [effA e]] ∧ vs = [i64 node, i64 seq, effA e, .ptr 0 0 0, dotsA e.drops, i64 e.drops.length, i64 i]) rfl ?_ ?_
    · exact Canon.mk [0] rfl ⟨e.drops.length, 0, Nat.zero_le _, rfl, seen0 _ _ _, rfl, by simp [dotsA, i64]; rfl⟩
    · rintro m vs H ⟨i, hi, rfl, hs, rfl, rfl⟩
      by_cases hil : i < e.drops.length
      · have h1 := dot_walk' e.drops[i]
        cases hp : dotOk e.drops[i] with
        | false =>
          rw [hp] at h1
          rw [seen_p hil hp, Bool.false_and]
          refine ND.yes (by omega) ?_
          refine NP.mk (by omega) ?_
          refine NG.mapN (by omega) ?_
          refine NP.mk (by kernel_rfl) ?_
          apply NDr.rd [1]
          · intro fH TH
            exact ⟨rfl, rfl⟩
          apply NDr.pure
          · refine NCall.call (h1) rfl rfl ?_
            exact ⟨rfl, rfl⟩
          apply NDr.pure
          · exact ⟨rfl, rfl⟩
          apply NDr.pure
          · exact ⟨rfl, rfl⟩
          apply NDr.pure
          · exact ⟨rfl, rfl⟩
          refine NP.mk (by kernel_rfl) ?_
          exact NRet.mk [] rfl ⟨.refl _, rfl⟩
        | true =>
          rw [hp] at h1
          cases i with
          | zero =>
            refine ND.yes (by omega) ?_
            refine NP.mk (by omega) ?_
            refine NG.mapN (by omega) ?_
            refine NP.mk (by kernel_rfl) ?_
            apply NDr.rd [1]
            · intro fH TH
              exact ⟨rfl, rfl⟩
            apply NDr.pure
            · refine NCall.call (h1) rfl rfl ?_
              exact ⟨rfl, rfl⟩
            apply NDr.pure
            · exact ⟨rfl, rfl⟩
            apply NDr.pure
            · exact ⟨rfl, rfl⟩
            apply NDr.pure
            · exact ⟨rfl, rfl⟩
            apply NDr.pure
            · refine ND.no (by omega) ?_
              exact ⟨rfl, rfl⟩
            apply NDr.pure
            · exact ⟨rfl, rfl⟩
            apply NDr.pure
            · exact ⟨rfl, rfl⟩
            apply NDr.pure
            · exact ⟨rfl, rfl⟩
            refine NP.mk (by kernel_rfl) ?_
            refine NW.i64 (by omega) (by omega) ?_
            exact Canon.mk [0] rfl ⟨e.drops.length - 1, by omega, 1, by omega, rfl, seen_zero hil hp, rfl, rfl⟩
          | succ k =>
            have h2 := order_walk e.drops[k] e.drops[k + 1]
            have ho := order_dlt e.drops[k] e.drops[k + 1]
            have ek : Int.toNat (((k + 1 : Nat) : Int) - 1) = k := by omega
            generalize orI [cmpI e.drops[k].node e.drops[k + 1].node, cmpI e.drops[k].seq e.drops[k + 1].seq, cmpI e.drops[k].at' e.drops[k + 1].at'] = q at *
            cases hr : dlt e.drops[k] e.drops[k + 1] with
            | false =>
              rw [hr] at ho
              have hq : 0 ≤ q := Int.not_lt.1 fun h => by simpa using ho.1 h
              rw [seen_r hil hr, Bool.false_and]
              refine ND.yes (by omega) ?_
              refine NP.mk (by omega) ?_
              refine NG.mapN (by omega) ?_
              refine NP.mk (by kernel_rfl) ?_
              apply NDr.rd [1]
              · intro fH TH
                exact ⟨rfl, rfl⟩
              apply NDr.pure
              · refine NCall.call (h1) rfl rfl ?_
                exact ⟨rfl, rfl⟩
              apply NDr.pure
              · exact ⟨rfl, rfl⟩
              apply NDr.pure
              · exact ⟨rfl, rfl⟩
              apply NDr.pure
              · exact ⟨rfl, rfl⟩
              apply NDr.pure
              · refine ND.yes (by omega) ?_
                exact ⟨rfl, rfl⟩
              apply NDr.pure
              · exact ⟨rfl, rfl⟩
              apply NDr.rd [0]
              · intro fH TH
                exact ⟨rfl, rfl⟩
              apply NDr.rd [0]
              · intro fH TH
                exact ⟨rfl, rfl⟩
              apply NDr.pure
              · exact ⟨rfl, rfl⟩
              apply NDr.pure
              · refine NW.i64 (by omega) (by omega) ?_
                exact ⟨rfl, rfl⟩
              apply NDr.pure
              · refine NP.mk (by omega) ?_
                rw [(ek)]
                refine NG.mapN (by omega) ?_
                exact ⟨rfl, rfl⟩
              apply NDr.pure
              · exact ⟨rfl, rfl⟩
              apply NDr.rd [1]
              · intro fH TH
                exact ⟨rfl, rfl⟩
              apply NDr.pure
              · refine NCall.call (h2) rfl rfl ?_
                exact ⟨rfl, rfl⟩
              apply NDr.pure
              · refine ND.yes (by omega) ?_
                exact ⟨rfl, rfl⟩
              apply NDr.pure
              · exact ⟨rfl, rfl⟩
              apply NDr.pure
              · exact ⟨rfl, rfl⟩
              refine NP.mk (by kernel_rfl) ?_
              exact NRet.mk [] rfl ⟨.refl _, rfl⟩
            | true =>
              have hq := ho.2 hr
              refine ND.yes (by omega) ?_
              refine NP.mk (by omega) ?_
              refine NG.mapN (by omega) ?_
              refine NP.mk (by kernel_rfl) ?_
              apply NDr.rd [1]
              · intro fH TH
                exact ⟨rfl, rfl⟩
              apply NDr.pure
              · refine NCall.call (h1) rfl rfl ?_
                exact ⟨rfl, rfl⟩
              apply NDr.pure
              · exact ⟨rfl, rfl⟩
              apply NDr.pure
              · exact ⟨rfl, rfl⟩
              apply NDr.pure
              · exact ⟨rfl, rfl⟩
              apply NDr.pure
              · refine ND.yes (by omega) ?_
                exact ⟨rfl, rfl⟩
              apply NDr.pure
              · exact ⟨rfl, rfl⟩
              apply NDr.rd [0]
              · intro fH TH
                exact ⟨rfl, rfl⟩
              apply NDr.rd [0]
              · intro fH TH
                exact ⟨rfl, rfl⟩
              apply NDr.pure
              · exact ⟨rfl, rfl⟩
              apply NDr.pure
              · refine NW.i64 (by omega) (by omega) ?_
                exact ⟨rfl, rfl⟩
              apply NDr.pure
              · refine NP.mk (by omega) ?_
                rw [(ek)]
                refine NG.mapN (by omega) ?_
                exact ⟨rfl, rfl⟩
              apply NDr.pure
              · exact ⟨rfl, rfl⟩
              apply NDr.rd [1]
              · intro fH TH
                exact ⟨rfl, rfl⟩
              apply NDr.pure
              · refine NCall.call (h2) rfl rfl ?_
                exact ⟨rfl, rfl⟩
              apply NDr.pure
              · refine ND.no (by omega) ?_
                exact ⟨rfl, rfl⟩
              apply NDr.pure
              · exact ⟨rfl, rfl⟩
              apply NDr.pure
              · exact ⟨rfl, rfl⟩
              refine NP.mk (by kernel_rfl) ?_
              refine NW.i64 (by omega) (by omega) ?_
              exact Canon.mk [0] rfl ⟨e.drops.length - (k + 1 + 1), by omega, k + 1 + 1, by omega, rfl, seen_succ hil hs hp hr, rfl, rfl⟩
      · have : i = e.drops.length := by omega
        subst this
        rw [seen_end hs, Bool.true_and]
        have h3 := made_walk node seq e
        by_cases hk : e.kind = 0
        · rw [if_pos hk]
          have h4 := itemFormed_walk (made node seq { e with kind := 1 }) (smMade he)
          refine ND.no (by omega) ?_
          refine ND.yes (by omega) ?_
          refine NCall.call (h3) rfl rfl ?_
          refine NCall.call (h4) rfl rfl ?_
          refine NB.mk (fun hk3 => ?_) (fun hk3 => ?_)
          · refine NB.yes (by simp [*]) ?_
            refine NB.yes (by simp [*]) ?_
            refine NB.dec (fun hk6 => ?_) (fun hk6 => ?_)
            · refine NB.mk (fun hk7 => ?_) (fun hk7 => ?_)
              · refine NB.dec (fun hk8 => ?_) (fun hk8 => ?_)
                · refine NRet.boolE (b := true) ?_ (NRet.mk [] rfl ⟨.refl _, rfl⟩)
                  grind [List.length_eq_zero_iff]
                refine NRet.boolE (b := false) ?_ (NRet.mk [] rfl ⟨.refl _, rfl⟩)
                grind [List.length_eq_zero_iff]
              refine NRet.boolE (b := false) ?_ (NRet.mk [] rfl ⟨.refl _, rfl⟩)
              grind [List.length_eq_zero_iff]
            refine NB.yes (by simp [*]) ?_
            refine NRet.boolE (b := false) ?_ (NRet.mk [] rfl ⟨.refl _, rfl⟩)
            grind [List.length_eq_zero_iff]
          refine NB.no (by simp [*]) ?_
          refine NB.no (by simp [*]) ?_
          refine NB.no (by simp [*]) ?_
          refine NRet.boolE (b := false) ?_ (NRet.mk [] rfl ⟨.refl _, rfl⟩)
          grind [List.length_eq_zero_iff]
        · rw [if_neg hk]
          have h4 := itemFormed_walk (made node seq e) (smMade he)
          refine ND.no (by omega) ?_
          refine ND.no (by omega) ?_
          refine NCall.call (h3) rfl rfl ?_
          refine NCall.call (h4) rfl rfl ?_
          exact NRet.mk [] rfl ⟨.refl _, rfl⟩
  · rw [decide_eq_false h, Bool.false_and, Bool.false_and]
    refine ND.yes (by (simp only [List.length_map, List.length_append, List.length_replicate, List.length_cons, List.length_nil, List.length_take, List.length_drop]; omega)) ?_
    exact NRet.mk [] rfl ⟨.refl _, rfl⟩
theorem effFormed10_walk (node seq : Int) (e : Eff) (he : smEff e) : ACalls Try.prog Nm.ref10_Formed [i64 node, i64 seq, effA e] [] (.bool (effOk node seq e)) [] := by
  refine ACalls_of tab (dr_snd tab mixed) Nm.ref10_Formed_h rfl (by kernel_rfl) (Nat.le_of_ble_eq_true rfl) rfl ?_
  rw [effOk, dropsOk]
  by_cases h : e.drops.length ≤ 64
  · rw [decide_eq_true h, Bool.true_and]
    refine ND.no (by (simp only [List.length_map, List.length_append, List.length_replicate, List.length_cons, List.length_nil, List.length_take, List.length_drop]; omega)) ?_
    refine NLoop.mk [] [0, 1, 2, 5, 7] (fun m vs H => ∃ i, i ≤ e.drops.length ∧ m = e.drops.length - i ∧ Seen dotOk dlt e.drops i ∧ H = [.row .box (.agg 7) [effA e]] ∧ vs = [i64 node, i64 seq, effA e, .ptr 0 0 0, i64 i]) rfl ?_ ?_
    · exact Canon.mk [0] rfl ⟨e.drops.length, 0, Nat.zero_le _, rfl, seen0 _ _ _, rfl, rfl⟩
    · rintro m vs H ⟨i, hi, rfl, hs, rfl, rfl⟩
      by_cases hil : i < e.drops.length
      · have h1 := may10_walk e.drops[i]
        cases hp : dotOk e.drops[i] with
        | false =>
          rw [hp] at h1
          rw [seen_p hil hp, Bool.false_and]
          refine ND.yes (by (simp only [List.length_map, List.length_append, List.length_replicate, List.length_cons, List.length_nil, List.length_take, List.length_drop]; omega)) ?_
          refine NP.mk (by kernel_rfl) ?_
          apply NDr.rd [0]
          · intro fH TH
            exact ⟨rfl, rfl⟩
          apply NDr.rd [0]
          · intro fH TH
            exact ⟨rfl, rfl⟩
          apply NDr.pure
          · exact ⟨rfl, rfl⟩
          apply NDr.pure
          · refine NP.mk (by omega) ?_
            refine NG.mapN (by omega) ?_
            exact ⟨rfl, rfl⟩
          apply NDr.pure
          · exact ⟨rfl, rfl⟩
          apply NDr.pure
          · refine NCall.call (h1) rfl rfl ?_
            exact ⟨rfl, rfl⟩
          apply NDr.pure
          · exact ⟨rfl, rfl⟩
          apply NDr.pure
          · exact ⟨rfl, rfl⟩
          apply NDr.pure
          · exact ⟨rfl, rfl⟩
          refine NP.mk (by kernel_rfl) ?_
          exact NRet.mk [] rfl ⟨.refl _, rfl⟩
        | true =>
          rw [hp] at h1
          cases i with
          | zero =>
            refine ND.yes (by (simp only [List.length_map, List.length_append, List.length_replicate, List.length_cons, List.length_nil, List.length_take, List.length_drop]; omega)) ?_
            refine NP.mk (by kernel_rfl) ?_
            apply NDr.rd [0]
            · intro fH TH
              exact ⟨rfl, rfl⟩
            apply NDr.rd [0]
            · intro fH TH
              exact ⟨rfl, rfl⟩
            apply NDr.pure
            · exact ⟨rfl, rfl⟩
            apply NDr.pure
            · refine NP.mk (by omega) ?_
              refine NG.mapN (by omega) ?_
              exact ⟨rfl, rfl⟩
            apply NDr.pure
            · exact ⟨rfl, rfl⟩
            apply NDr.pure
            · refine NCall.call (h1) rfl rfl ?_
              exact ⟨rfl, rfl⟩
            apply NDr.pure
            · exact ⟨rfl, rfl⟩
            apply NDr.pure
            · exact ⟨rfl, rfl⟩
            apply NDr.pure
            · exact ⟨rfl, rfl⟩
            apply NDr.pure
            · refine ND.no (by omega) ?_
              exact ⟨rfl, rfl⟩
            apply NDr.pure
            · exact ⟨rfl, rfl⟩
            apply NDr.pure
            · exact ⟨rfl, rfl⟩
            apply NDr.pure
            · exact ⟨rfl, rfl⟩
            refine NP.mk (by kernel_rfl) ?_
            refine NW.i64 (by omega) (by omega) ?_
            exact Canon.mk [0] rfl ⟨e.drops.length - 1, by omega, 1, by omega, rfl, seen_zero hil hp, rfl, rfl⟩
          | succ k =>
            have h2 := ahead10_walk e.drops[k] e.drops[k + 1]
            have ek : Int.toNat (((k + 1 : Nat) : Int) - 1) = k := by omega
            cases hr : dlt e.drops[k] e.drops[k + 1] with
            | false =>
              rw [hr] at h2
              rw [seen_r hil hr, Bool.false_and]
              refine ND.yes (by (simp only [List.length_map, List.length_append, List.length_replicate, List.length_cons, List.length_nil, List.length_take, List.length_drop]; omega)) ?_
              refine NP.mk (by kernel_rfl) ?_
              apply NDr.rd [0]
              · intro fH TH
                exact ⟨rfl, rfl⟩
              apply NDr.rd [0]
              · intro fH TH
                exact ⟨rfl, rfl⟩
              apply NDr.pure
              · exact ⟨rfl, rfl⟩
              apply NDr.pure
              · refine NP.mk (by omega) ?_
                refine NG.mapN (by omega) ?_
                exact ⟨rfl, rfl⟩
              apply NDr.pure
              · exact ⟨rfl, rfl⟩
              apply NDr.pure
              · refine NCall.call (h1) rfl rfl ?_
                exact ⟨rfl, rfl⟩
              apply NDr.pure
              · exact ⟨rfl, rfl⟩
              apply NDr.pure
              · exact ⟨rfl, rfl⟩
              apply NDr.pure
              · exact ⟨rfl, rfl⟩
              apply NDr.pure
              · refine ND.yes (by omega) ?_
                exact ⟨rfl, rfl⟩
              apply NDr.pure
              · exact ⟨rfl, rfl⟩
              apply NDr.rd [0]
              · intro fH TH
                exact ⟨rfl, rfl⟩
              apply NDr.rd [0]
              · intro fH TH
                exact ⟨rfl, rfl⟩
              apply NDr.pure
              · exact ⟨rfl, rfl⟩
              apply NDr.pure
              · refine NW.i64 (by omega) (by omega) ?_
                exact ⟨rfl, rfl⟩
              apply NDr.pure
              · refine NP.mk (by omega) ?_
                rw [(ek)]
                refine NG.mapN (by omega) ?_
                exact ⟨rfl, rfl⟩
              apply NDr.pure
              · exact ⟨rfl, rfl⟩
              apply NDr.rd [0]
              · intro fH TH
                exact ⟨rfl, rfl⟩
              apply NDr.rd [0]
              · intro fH TH
                exact ⟨rfl, rfl⟩
              apply NDr.pure
              · exact ⟨rfl, rfl⟩
              apply NDr.pure
              · refine NP.mk (by omega) ?_
                refine NG.mapN (by omega) ?_
                exact ⟨rfl, rfl⟩
              apply NDr.pure
              · exact ⟨rfl, rfl⟩
              apply NDr.pure
              · refine NCall.call (h2) rfl rfl ?_
                exact ⟨rfl, rfl⟩
              apply NDr.pure
              · exact ⟨rfl, rfl⟩
              apply NDr.pure
              · exact ⟨rfl, rfl⟩
              apply NDr.pure
              · exact ⟨rfl, rfl⟩
              refine NP.mk (by kernel_rfl) ?_
              exact NRet.mk [] rfl ⟨.refl _, rfl⟩
            | true =>
              rw [hr] at h2
              refine ND.yes (by (simp only [List.length_map, List.length_append, List.length_replicate, List.length_cons, List.length_nil, List.length_take, List.length_drop]; omega)) ?_
              refine NP.mk (by kernel_rfl) ?_
              apply NDr.rd [0]
              · intro fH TH
                exact ⟨rfl, rfl⟩
              apply NDr.rd [0]
              · intro fH TH
                exact ⟨rfl, rfl⟩
              apply NDr.pure
              · exact ⟨rfl, rfl⟩
              apply NDr.pure
              · refine NP.mk (by omega) ?_
                refine NG.mapN (by omega) ?_
                exact ⟨rfl, rfl⟩
              apply NDr.pure
              · exact ⟨rfl, rfl⟩
              apply NDr.pure
              · refine NCall.call (h1) rfl rfl ?_
                exact ⟨rfl, rfl⟩
              apply NDr.pure
              · exact ⟨rfl, rfl⟩
              apply NDr.pure
              · exact ⟨rfl, rfl⟩
              apply NDr.pure
              · exact ⟨rfl, rfl⟩
              apply NDr.pure
              · refine ND.yes (by omega) ?_
                exact ⟨rfl, rfl⟩
              apply NDr.pure
              · exact ⟨rfl, rfl⟩
              apply NDr.rd [0]
              · intro fH TH
                exact ⟨rfl, rfl⟩
              apply NDr.rd [0]
              · intro fH TH
                exact ⟨rfl, rfl⟩
              apply NDr.pure
              · exact ⟨rfl, rfl⟩
              apply NDr.pure
              · refine NW.i64 (by omega) (by omega) ?_
                exact ⟨rfl, rfl⟩
              apply NDr.pure
              · refine NP.mk (by omega) ?_
                rw [(ek)]
                refine NG.mapN (by omega) ?_
                exact ⟨rfl, rfl⟩
              apply NDr.pure
              · exact ⟨rfl, rfl⟩
              apply NDr.rd [0]
              · intro fH TH
                exact ⟨rfl, rfl⟩
              apply NDr.rd [0]
              · intro fH TH
                exact ⟨rfl, rfl⟩
              apply NDr.pure
              · exact ⟨rfl, rfl⟩
              apply NDr.pure
              · refine NP.mk (by omega) ?_
                refine NG.mapN (by omega) ?_
                exact ⟨rfl, rfl⟩
              apply NDr.pure
              · exact ⟨rfl, rfl⟩
              apply NDr.pure
              · refine NCall.call (h2) rfl rfl ?_
                exact ⟨rfl, rfl⟩
              apply NDr.pure
              · exact ⟨rfl, rfl⟩
              apply NDr.pure
              · exact ⟨rfl, rfl⟩
              apply NDr.pure
              · exact ⟨rfl, rfl⟩
              refine NP.mk (by kernel_rfl) ?_
              refine NW.i64 (by omega) (by omega) ?_
              exact Canon.mk [0] rfl ⟨e.drops.length - (k + 1 + 1), by omega, k + 1 + 1, by omega, rfl, seen_succ hil hs hp hr, rfl, rfl⟩
      · have : i = e.drops.length := by omega
        subst this
        rw [seen_end hs, Bool.true_and]
        have h3 := made10_walk node seq e
        have h4 := item9_walk (made node seq e) (smMade he)
        have h5 := key8_walk e.key (by have := he.1; omega)
        have h6 := prefix8_walk e.field (by have := he.2.1; omega)
        have h7 := may10_walk ⟨node, seq, e.at'⟩
        by_cases hk : e.kind = 0
        · rw [if_pos hk]
          refine ND.no (by (simp only [List.length_map, List.length_append, List.length_replicate, List.length_cons, List.length_nil, List.length_take, List.length_drop]; omega)) ?_
          refine ND.yes (by omega) ?_
          refine NB.dec (fun hk3 => ?_) (fun hk3 => ?_)
          · refine NB.dec (fun hk4 => ?_) (fun hk4 => ?_)
            · refine NB.dec (fun hk5 => ?_) (fun hk5 => ?_)
              · refine NCall.call (h5) rfl rfl ?_
                refine NB.mk (fun hk6 => ?_) (fun hk6 => ?_)
                · refine NB.yes (by simp [*]) ?_
                  refine NB.yes (by simp [*]) ?_
                  refine NCall.call (h6) rfl rfl ?_
                  refine NB.yes (by simp [*]) ?_
                  refine NB.mk (fun hk10 => ?_) (fun hk10 => ?_)
                  · refine NB.yes (by simp [*]) ?_
                    refine NB.yes (by simp [*]) ?_
                    refine NB.yes (by simp [*]) ?_
                    refine NB.yes (by simp [*]) ?_
                    refine NB.yes (by simp [*]) ?_
                    refine NCall.call (h7) rfl rfl ?_
                    refine NB.yes (by simp [*]) ?_
                    refine NRet.boolE ?_ (NRet.mk [] rfl ⟨.refl _, rfl⟩)
                    grind [itemOk, made, kindOk, List.length_eq_zero_iff]
                  refine NB.no (by simp [*]) ?_
                  refine NB.no (by simp [*]) ?_
                  refine NB.no (by simp [*]) ?_
                  refine NB.no (by simp [*]) ?_
                  refine NB.no (by simp [*]) ?_
                  refine NB.no (by simp [*]) ?_
                  refine NRet.boolE (b := false) ?_ (NRet.mk [] rfl ⟨.refl _, rfl⟩)
                  grind [itemOk, made, kindOk, List.length_eq_zero_iff]
                refine NB.no (by simp [*]) ?_
                refine NB.no (by simp [*]) ?_
                refine NB.no (by simp [*]) ?_
                refine NRet.boolE (b := false) ?_ (NRet.mk [] rfl ⟨.refl _, rfl⟩)
                grind [itemOk, made, kindOk, List.length_eq_zero_iff]
              refine NRet.boolE (b := false) ?_ (NRet.mk [] rfl ⟨.refl _, rfl⟩)
              grind [itemOk, made, kindOk, List.length_eq_zero_iff]
            refine NRet.boolE (b := false) ?_ (NRet.mk [] rfl ⟨.refl _, rfl⟩)
            grind [itemOk, made, kindOk, List.length_eq_zero_iff]
          refine NRet.boolE (b := false) ?_ (NRet.mk [] rfl ⟨.refl _, rfl⟩)
          grind [itemOk, made, kindOk, List.length_eq_zero_iff]
        · rw [if_neg hk]
          refine ND.no (by (simp only [List.length_map, List.length_append, List.length_replicate, List.length_cons, List.length_nil, List.length_take, List.length_drop]; omega)) ?_
          refine ND.no (by omega) ?_
          refine NCall.call (h3) rfl rfl ?_
          refine NCall.call (h4) rfl rfl ?_
          exact NRet.mk [] rfl ⟨.refl _, rfl⟩
  · rw [decide_eq_false h, Bool.false_and, Bool.false_and]
    refine ND.yes (by (simp only [List.length_map, List.length_append, List.length_replicate, List.length_cons, List.length_nil, List.length_take, List.length_drop]; omega)) ?_
    exact NRet.mk [] rfl ⟨.refl _, rfl⟩
def heard1 (node seq : Int) (v : List Int) (d : Dot) : Bool := hasB v d.node d.seq || decide (d.node = node ∧ d.seq = seq)
theorem effHeard_walk (l : List Eff) (node seq : Int) (v : List Int) (hl : l.length ≤ 2 ^ 40) (hx : ∀ e ∈ l, smEff e) (hv : v.length ≤ 2 ^ 40) : ACalls Try.prog Nm.eff_Heard [effsA l, i64 node, i64 seq, ints v] [] (.bool (heardB l node seq v)) [] := by
  refine ACalls_of tab (dr_snd tab mixed) Nm.eff_Heard_h rfl (by kernel_rfl) (Nat.le_of_ble_eq_true rfl) rfl ?_
  refine NLoop.mk [] [1, 2, 3, 13, 14, 15] (fun m vs H => ∃ i, i ≤ l.length ∧ m = l.length - i ∧ (∀ x ∈ l.take i, (x.drops.all (heard1 node seq v)) = true) ∧ H = [] ∧ vs = [i64 node, i64 seq, ints v, effsA l, i64 l.length, i64 i]) rfl ?_ ?_
  · exact Canon.mk [] rfl ⟨l.length, 0, Nat.zero_le _, rfl, by simp, rfl, by simp [effsA, ints, i64]⟩
  · rintro m vs H ⟨i, hi, rfl, ht, rfl, rfl⟩
    by_cases hil : i < l.length
    · obtain ⟨f1, f2⟩ := all_step hil ht
      have hd := (hx _ (List.getElem_mem hil)).2.2.2
      refine ND.yes (by omega) ?_
      refine NP.mk (by omega) ?_
      refine NG.mapN (by omega) ?_
      refine NLoop.mk [] [1, 2, 3, 13, 14, 15, 20, 21, 22] (fun m vs H => ∃ k, k ≤ l[i].drops.length ∧ m = l[i].drops.length - k ∧ (∀ x ∈ l[i].drops.take k, heard1 node seq v x = true) ∧ H = [] ∧ vs = [i64 node, i64 seq, ints v, effsA l, i64 l.length, i64 i, dotsA l[i].drops, i64 l[i].drops.length, i64 k]) rfl ?_ ?_
      · exact Canon.mk [] rfl ⟨l[i].drops.length, 0, Nat.zero_le _, rfl, by simp, rfl, by simp [effsA, ints, dotsA, i64]⟩
      · rintro m vs H ⟨k, hk, rfl, htk, rfl, rfl⟩
        by_cases hkl : k < l[i].drops.length
        · obtain ⟨g1, g2⟩ := all_step hkl htk
          have h1 := vecHas_walk v l[i].drops[k].node l[i].drops[k].seq l[i].drops[k].at' hv
          have bad : heard1 node seq v l[i].drops[k] = false → false = heardB l node seq v := fun h => (f1 (g1 h)).symm
          have fin : heard1 node seq v l[i].drops[k] = true → ∃ m', m' < l[i].drops.length - k ∧ ∃ k', k' ≤ l[i].drops.length ∧ m' = l[i].drops.length - k' ∧ (∀ x ∈ l[i].drops.take k', heard1 node seq v x = true) ∧ ([] : List Blk) = [] ∧ [i64 node, i64 seq, ints v, effsA l, i64 l.length, i64 i, dotsA l[i].drops, i64 l[i].drops.length, i64 ((k + 1 : Nat) : Int)] = [i64 node, i64 seq, ints v, effsA l, i64 l.length, i64 i, dotsA l[i].drops, i64 l[i].drops.length, i64 k'] := fun h =>
            ⟨l[i].drops.length - (k + 1), by omega, k + 1, by omega, rfl, g2 h, rfl, rfl⟩
          refine ND.yes (by omega) ?_
          refine NP.mk (by omega) ?_
          refine NG.mapN (by omega) ?_
          refine NCall.call (h1) rfl rfl ?_
          refine NB.mk (fun hk2 => ?_) (fun hk2 => ?_)
          · refine NW.i64 (by omega) (by omega) ?_
            exact (Canon.mk [] rfl (fin (by grind [heard1, hasB])))
          refine NB.dec (fun hk3 => ?_) (fun hk3 => ?_)
          · refine NB.dec (fun hk4 => ?_) (fun hk4 => ?_)
            · refine NW.i64 (by omega) (by omega) ?_
              exact (Canon.mk [] rfl (fin (by grind [heard1, hasB])))
            refine NRet.boolE (b := false) ?_ (NRet.mk [] rfl ⟨.refl _, rfl⟩)
            exact bad (by grind [heard1, hasB])
          refine NRet.boolE (b := false) ?_ (NRet.mk [] rfl ⟨.refl _, rfl⟩)
          exact bad (by grind [heard1, hasB])
        · have : k = l[i].drops.length := by omega
          have htk := all_end (this ▸ htk)
          refine ND.no (by omega) ?_
          refine NW.i64 (by omega) (by omega) ?_
          exact Canon.mk [] rfl ⟨l.length - (i + 1), by omega, i + 1, by omega, rfl, f2 htk, rfl, rfl⟩
    · have : i = l.length := by omega
      subst this
      rw [show heardB l node seq v = true from all_end ht]
      refine ND.no (by omega) ?_
      exact NRet.mk [] rfl ⟨.refl _, rfl⟩
theorem effHeard10_walk (l : List Eff) (node seq : Int) (v : List Int) (hl : l.length ≤ 2 ^ 40) (hx : ∀ e ∈ l, smEff e) (hv : v.length ≤ 2 ^ 40) : ACalls Try.prog Nm.ref10_Heard [effsA l, i64 node, i64 seq, ints v] [] (.bool (heardB l node seq v)) [] := by
  refine ACalls_of tab (dr_snd tab mixed) Nm.ref10_Heard_h rfl (by kernel_rfl) (Nat.le_of_ble_eq_true rfl) rfl ?_
  refine NLoop.mk [] [0, 1, 2, 3, 9] (fun m vs H => ∃ i, i ≤ l.length ∧ m = l.length - i ∧ (∀ x ∈ l.take i, (x.drops.all (heard1 node seq v)) = true) ∧ H = [] ∧ vs = [effsA l, i64 node, i64 seq, ints v, i64 i]) rfl ?_ ?_
  · exact Canon.mk [] rfl ⟨l.length, 0, Nat.zero_le _, rfl, by simp, rfl, rfl⟩
  · rintro m vs H ⟨i, hi, rfl, ht, rfl, rfl⟩
    by_cases hil : i < l.length
    · obtain ⟨f1, f2⟩ := all_step hil ht
      have hd := (hx _ (List.getElem_mem hil)).2.2.2
      refine ND.yes (by (simp only [List.length_map, List.length_append, List.length_replicate, List.length_cons, List.length_nil, List.length_take, List.length_drop]; omega)) ?_
      refine NLoop.mk [] [0, 1, 2, 3, 9, 10] (fun m vs H => ∃ k, k ≤ l[i].drops.length ∧ m = l[i].drops.length - k ∧ (∀ x ∈ l[i].drops.take k, heard1 node seq v x = true) ∧ H = [] ∧ vs = [effsA l, i64 node, i64 seq, ints v, i64 i, i64 k]) rfl ?_ ?_
      · exact Canon.mk [] rfl ⟨l[i].drops.length, 0, Nat.zero_le _, rfl, by simp, rfl, rfl⟩
      · rintro m vs H ⟨k, hk, rfl, htk, rfl, rfl⟩
        by_cases hkl : k < l[i].drops.length
        · obtain ⟨g1, g2⟩ := all_step hkl htk
          have h1 := at7_walk v l[i].drops[k].node hv
          have bad : heard1 node seq v l[i].drops[k] = false → false = heardB l node seq v := fun h => (f1 (g1 h)).symm
          have fin : heard1 node seq v l[i].drops[k] = true → ∃ m', m' < l[i].drops.length - k ∧ ∃ k', k' ≤ l[i].drops.length ∧ m' = l[i].drops.length - k' ∧ (∀ x ∈ l[i].drops.take k', heard1 node seq v x = true) ∧ ([] : List Blk) = [] ∧ [effsA l, i64 node, i64 seq, ints v, i64 i, i64 ((k + 1 : Nat) : Int)] = [effsA l, i64 node, i64 seq, ints v, i64 i, i64 k'] := fun h =>
            ⟨l[i].drops.length - (k + 1), by omega, k + 1, by omega, rfl, g2 h, rfl, rfl⟩
          refine NP.mk (by omega) ?_
          refine NG.mapN (by omega) ?_
          refine ND.yes (by (simp only [List.length_map, List.length_append, List.length_replicate, List.length_cons, List.length_nil, List.length_take, List.length_drop]; omega)) ?_
          refine NP.mk (by omega) ?_
          refine NG.mapN (by omega) ?_
          refine NP.mk (by omega) ?_
          refine NG.mapN (by omega) ?_
          refine NB.dec (fun hk2 => ?_) (fun hk2 => ?_)
          · refine NB.dec (fun hk3 => ?_) (fun hk3 => ?_)
            · refine NP.mk (by kernel_rfl) ?_
              apply NDr.pure
              · exact ⟨rfl, rfl⟩
              apply NDr.pure
              · exact ⟨rfl, rfl⟩
              apply NDr.pure
              · exact ⟨rfl, rfl⟩
              apply NDr.pure
              · exact ⟨rfl, rfl⟩
              refine NP.mk (by kernel_rfl) ?_
              refine NW.i64 (by omega) (by omega) ?_
              exact (Canon.mk [] rfl (fin (by grind [heard1, hasB])))
            refine NP.mk (by kernel_rfl) ?_
            apply NDr.pure
            · exact ⟨rfl, rfl⟩
            apply NDr.pure
            · exact ⟨rfl, rfl⟩
            apply NDr.pure
            · exact ⟨rfl, rfl⟩
            apply NDr.rd [0]
            · intro fH TH
              exact ⟨rfl, rfl⟩
            apply NDr.rd [0]
            · intro fH TH
              exact ⟨rfl, rfl⟩
            apply NDr.pure
            · exact NB.det
            apply NDr.pure
            · exact ⟨rfl, rfl⟩
            refine NB.mk (fun hk5 => ?_) (fun hk5 => ?_)
            · refine NB.yes (by simp [*]) ?_
              refine NB.yes (by simp [*]) ?_
              refine NB.yes (by simp [*]) ?_
              refine NB.yes (by simp [*]) ?_
              refine NB.yes (by simp [*]) ?_
              refine NB.yes (by simp [*]) ?_
              apply NDr.pure
              · refine NB.yes (by simp [*]) ?_
                exact ⟨rfl, rfl⟩
              apply NDr.pure
              · exact ⟨rfl, rfl⟩
              refine NP.mk (by kernel_rfl) ?_
              refine NRet.boolE (b := false) ?_ (NRet.mk [] rfl ⟨.refl _, rfl⟩)
              exact bad (by grind [heard1, hasB])
            apply NDr.rd [0]
            · intro fH TH
              exact ⟨rfl, rfl⟩
            refine NB.no (by simp [*]) ?_
            apply NDr.rd [0]
            · intro fH TH
              exact ⟨rfl, rfl⟩
            refine NB.no (by simp [*]) ?_
            apply NDr.pure
            · exact ⟨rfl, rfl⟩
            refine NB.no (by simp [*]) ?_
            apply NDr.rd [0]
            · intro fH TH
              exact ⟨rfl, rfl⟩
            refine NB.no (by simp [*]) ?_
            apply NDr.rd [0]
            · intro fH TH
              exact ⟨rfl, rfl⟩
            refine NB.no (by simp [*]) ?_
            apply NDr.pure
            · refine NCall.call (h1) rfl rfl ?_
              exact ⟨rfl, rfl⟩
            refine NB.no (by simp [*]) ?_
            apply NDr.pure
            · exact NB.det
            apply NDr.pure
            · refine NB.no (by simp [*]) ?_
              exact ⟨rfl, rfl⟩
            apply NDr.pure
            · exact ⟨rfl, rfl⟩
            refine NP.mk (by kernel_rfl) ?_
            refine NB.mk (fun hk21 => ?_) (fun hk21 => ?_)
            · refine NRet.boolE (b := false) ?_ (NRet.mk [] rfl ⟨.refl _, rfl⟩)
              exact bad (by grind [heard1, hasB])
            refine NW.i64 (by omega) (by omega) ?_
            exact (Canon.mk [] rfl (fin (by grind [heard1, hasB])))
          refine NP.mk (by kernel_rfl) ?_
          apply NDr.pure
          · exact ⟨rfl, rfl⟩
          apply NDr.pure
          · exact ⟨rfl, rfl⟩
          apply NDr.pure
          · exact ⟨rfl, rfl⟩
          apply NDr.rd [0]
          · intro fH TH
            exact ⟨rfl, rfl⟩
          apply NDr.rd [0]
          · intro fH TH
            exact ⟨rfl, rfl⟩
          apply NDr.pure
          · exact NB.det
          apply NDr.pure
          · exact ⟨rfl, rfl⟩
          refine NB.mk (fun hk23 => ?_) (fun hk23 => ?_)
          · refine NB.yes (by simp [*]) ?_
            refine NB.yes (by simp [*]) ?_
            refine NB.yes (by simp [*]) ?_
            refine NB.yes (by simp [*]) ?_
            refine NB.yes (by simp [*]) ?_
            refine NB.yes (by simp [*]) ?_
            apply NDr.pure
            · refine NB.yes (by simp [*]) ?_
              exact ⟨rfl, rfl⟩
            apply NDr.pure
            · exact ⟨rfl, rfl⟩
            refine NP.mk (by kernel_rfl) ?_
            refine NRet.boolE (b := false) ?_ (NRet.mk [] rfl ⟨.refl _, rfl⟩)
            exact bad (by grind [heard1, hasB])
          apply NDr.rd [0]
          · intro fH TH
            exact ⟨rfl, rfl⟩
          refine NB.no (by simp [*]) ?_
          apply NDr.rd [0]
          · intro fH TH
            exact ⟨rfl, rfl⟩
          refine NB.no (by simp [*]) ?_
          apply NDr.pure
          · exact ⟨rfl, rfl⟩
          refine NB.no (by simp [*]) ?_
          apply NDr.rd [0]
          · intro fH TH
            exact ⟨rfl, rfl⟩
          refine NB.no (by simp [*]) ?_
          apply NDr.rd [0]
          · intro fH TH
            exact ⟨rfl, rfl⟩
          refine NB.no (by simp [*]) ?_
          apply NDr.pure
          · refine NCall.call (h1) rfl rfl ?_
            exact ⟨rfl, rfl⟩
          refine NB.no (by simp [*]) ?_
          apply NDr.pure
          · exact NB.det
          apply NDr.pure
          · refine NB.no (by simp [*]) ?_
            exact ⟨rfl, rfl⟩
          apply NDr.pure
          · exact ⟨rfl, rfl⟩
          refine NP.mk (by kernel_rfl) ?_
          refine NB.mk (fun hk39 => ?_) (fun hk39 => ?_)
          · refine NRet.boolE (b := false) ?_ (NRet.mk [] rfl ⟨.refl _, rfl⟩)
            exact bad (by grind [heard1, hasB])
          refine NW.i64 (by omega) (by omega) ?_
          exact (Canon.mk [] rfl (fin (by grind [heard1, hasB])))
        · have : k = l[i].drops.length := by omega
          have htk := all_end (this ▸ htk)
          refine NP.mk (by omega) ?_
          refine NG.mapN (by omega) ?_
          refine ND.no (by (simp only [List.length_map, List.length_append, List.length_replicate, List.length_cons, List.length_nil, List.length_take, List.length_drop]; omega)) ?_
          refine NW.i64 (by omega) (by omega) ?_
          exact Canon.mk [] rfl ⟨l.length - (i + 1), by omega, i + 1, by omega, rfl, f2 htk, rfl, rfl⟩
    · have : i = l.length := by omega
      subst this
      rw [show heardB l node seq v = true from all_end ht]
      refine ND.no (by (simp only [List.length_map, List.length_append, List.length_replicate, List.length_cons, List.length_nil, List.length_take, List.length_drop]; omega)) ?_
      exact NRet.mk [] rfl ⟨.refl _, rfl⟩
def ownBad (node seq : Int) (e : Eff) (d : Dot) : Bool := decide (d.node = node ∧ d.seq = seq ∧ e.at' ≤ d.at')
theorem ownOk_any (node seq : Int) (e : Eff) : ownOk node seq e = !e.drops.any (ownBad node seq e) := by
  unfold ownOk ownBad
  rw [List.not_any_eq_all_not]
  congr 1; funext d
  simp
  grind
def atLt (a b : Eff) : Bool := decide (a.at' < b.at')
def eff1 (node seq : Int) (e : Eff) : Bool := effOk node seq e && ownOk node seq e
theorem right10_walk (node seq : Int) (l : List Eff) (hl : l.length ≤ 2 ^ 40) (hx : ∀ e ∈ l, smEff e) : ACalls Try.prog Nm.ref10_Right [i64 node, i64 seq, effsA l] [] (.bool (effsOk node seq l)) [] := by
  refine ACalls_of tab (dr_snd tab mixed) Nm.ref10_Right_h rfl (by kernel_rfl) (Nat.le_of_ble_eq_true rfl) rfl ?_
  have e0 : effsOk node seq l = (l.all (eff1 node seq) && adj atLt l) := rfl
  rw [e0]
  refine NLoop.mk [] [0, 1, 2, 7] (fun m vs H => ∃ i, i ≤ l.length ∧ m = l.length - i ∧ Seen (eff1 node seq) atLt l i ∧ H = [] ∧ vs = [i64 node, i64 seq, effsA l, i64 i]) rfl ?_ ?_
  · exact Canon.mk [] rfl ⟨l.length, 0, Nat.zero_le _, rfl, seen0 _ _ _, rfl, rfl⟩
  · rintro m vs H ⟨i, hi, rfl, hs, rfl, rfl⟩
    by_cases hil : i < l.length
    · have hxi := hx _ (List.getElem_mem hil)
      have h1 := effFormed10_walk node seq l[i] hxi
      have h64 := hxi.2.2.2
      cases hp : effOk node seq l[i] with
      | false =>
        rw [hp] at h1
        rw [seen_p hil (by unfold eff1; rw [hp, Bool.false_and])]
        refine ND.yes (by (simp only [List.length_map, List.length_append, List.length_replicate, List.length_cons, List.length_nil, List.length_take, List.length_drop]; omega)) ?_
        refine NP.mk (by omega) ?_
        refine NG.mapN (by omega) ?_
        refine NCall.call (h1) rfl rfl ?_
        exact NRet.mk [] rfl ⟨.refl _, rfl⟩
      | true =>
        rw [hp] at h1
        have hone : (l[i].drops.all fun x => !ownBad node seq l[i] x) = true → eff1 node seq l[i] = true := fun h => by
          unfold eff1; rw [hp, Bool.true_and, ownOk_any, List.not_any_eq_all_not]; exact h
        have hzero : (l[i].drops.all fun x => !ownBad node seq l[i] x) = false → eff1 node seq l[i] = false := fun h => by
          unfold eff1; rw [hp, Bool.true_and, ownOk_any, List.not_any_eq_all_not]; exact h
        cases i with
        | zero =>
          refine ND.yes (by (simp only [List.length_map, List.length_append, List.length_replicate, List.length_cons, List.length_nil, List.length_take, List.length_drop]; omega)) ?_
          refine NP.mk (by omega) ?_
          refine NG.mapN (by omega) ?_
          refine NCall.call (h1) rfl rfl ?_
          refine NP.mk (by kernel_rfl) ?_
          apply NDr.pure
          · exact ⟨rfl, rfl⟩
          apply NDr.pure
          · refine ND.no (by omega) ?_
            exact ⟨rfl, rfl⟩
          apply NDr.pure
          · exact ⟨rfl, rfl⟩
          apply NDr.pure
          · exact ⟨rfl, rfl⟩
          refine NP.mk (by kernel_rfl) ?_
          refine NLoop.mk [] [0, 1, 2, 7, 8] (fun m vs H => ∃ k', k' ≤ l[0].drops.length ∧ m = l[0].drops.length - k' ∧ (∀ x ∈ l[0].drops.take k', (!ownBad node seq l[0] x) = true) ∧ H = [] ∧ vs = [i64 node, i64 seq, effsA l, i64 ((0 : Nat) : Int), i64 k']) rfl ?_ ?_
          · exact Canon.mk [] rfl ⟨l[0].drops.length, 0, Nat.zero_le _, rfl, by simp, rfl, rfl⟩
          · rintro m vs H ⟨k', hk', rfl, htk, rfl, rfl⟩
            by_cases hkl : k' < l[0].drops.length
            · obtain ⟨g1, g2⟩ := all_step (p := fun x => !ownBad node seq l[0] x) hkl htk
              cases hb : ownBad node seq l[0] l[0].drops[k'] with
              | true =>
                rw [seen_p hil (hzero (g1 (by rw [hb]; rfl)))]
                have hb' := hb
                unfold ownBad at hb'
                rw [decide_eq_true_eq] at hb'
                refine NP.mk (by omega) ?_
                refine NG.mapN (by omega) ?_
                refine ND.yes (by (simp only [List.length_map, List.length_append, List.length_replicate, List.length_cons, List.length_nil, List.length_take, List.length_drop]; omega)) ?_
                refine NP.mk (by omega) ?_
                refine NG.mapN (by omega) ?_
                refine NP.mk (by omega) ?_
                refine NG.mapN (by omega) ?_
                refine NP.mk (by kernel_rfl) ?_
                apply NDr.rd [0]
                · intro fH TH
                  exact ⟨rfl, rfl⟩
                apply NDr.rd [0]
                · intro fH TH
                  exact ⟨rfl, rfl⟩
                apply NDr.pure
                · exact ⟨rfl, rfl⟩
                apply NDr.pure
                · refine ND.yes (by omega) ?_
                  exact ⟨rfl, rfl⟩
                apply NDr.pure
                · exact ⟨rfl, rfl⟩
                apply NDr.rd [0]
                · intro fH TH
                  exact ⟨rfl, rfl⟩
                apply NDr.rd [0]
                · intro fH TH
                  exact ⟨rfl, rfl⟩
                apply NDr.pure
                · exact ⟨rfl, rfl⟩
                apply NDr.pure
                · refine ND.yes (by omega) ?_
                  exact ⟨rfl, rfl⟩
                apply NDr.pure
                · exact ⟨rfl, rfl⟩
                apply NDr.pure
                · exact ⟨rfl, rfl⟩
                apply NDr.rd [0]
                · intro fH TH
                  exact ⟨rfl, rfl⟩
                apply NDr.rd [0]
                · intro fH TH
                  exact ⟨rfl, rfl⟩
                apply NDr.pure
                · exact ⟨rfl, rfl⟩
                apply NDr.pure
                · exact ⟨rfl, rfl⟩
                apply NDr.pure
                · refine NP.mk (by omega) ?_
                  refine NG.mapN (by omega) ?_
                  exact ⟨rfl, rfl⟩
                apply NDr.pure
                · exact ⟨rfl, rfl⟩
                apply NDr.pure
                · exact ⟨rfl, rfl⟩
                apply NDr.pure
                · refine ND.yes (by omega) ?_
                  exact ⟨rfl, rfl⟩
                apply NDr.pure
                · exact ⟨rfl, rfl⟩
                refine NP.mk (by kernel_rfl) ?_
                exact NRet.mk [] rfl ⟨.refl _, rfl⟩
              | false =>
                have hb' := hb
                unfold ownBad at hb'
                rw [decide_eq_false_iff_not] at hb'
                have fin : ∃ m', m' < l[0].drops.length - k' ∧ ∃ k'', k'' ≤ l[0].drops.length ∧ m' = l[0].drops.length - k'' ∧ (∀ x ∈ l[0].drops.take k'', (!ownBad node seq l[0] x) = true) ∧ ([] : List Blk) = [] ∧ [i64 node, i64 seq, effsA l, i64 ((0 : Nat) : Int), i64 ((k' + 1 : Nat) : Int)] = [i64 node, i64 seq, effsA l, i64 ((0 : Nat) : Int), i64 k''] :=
                  ⟨l[0].drops.length - (k' + 1), by omega, k' + 1, by omega, rfl, g2 (by rw [hb]; rfl), rfl, rfl⟩
                refine NP.mk (by omega) ?_
                refine NG.mapN (by omega) ?_
                refine ND.yes (by (simp only [List.length_map, List.length_append, List.length_replicate, List.length_cons, List.length_nil, List.length_take, List.length_drop]; omega)) ?_
                refine NP.mk (by omega) ?_
                refine NG.mapN (by omega) ?_
                refine NP.mk (by omega) ?_
                refine NG.mapN (by omega) ?_
                refine NP.mk (by kernel_rfl) ?_
                apply NDr.rd [0]
                · intro fH TH
                  exact ⟨rfl, rfl⟩
                apply NDr.rd [0]
                · intro fH TH
                  exact ⟨rfl, rfl⟩
                apply NDr.pure
                · exact ⟨rfl, rfl⟩
                apply NDr.pure
                · exact NB.det
                apply NDr.pure
                · exact ⟨rfl, rfl⟩
                refine NB.mk (fun hk3 => ?_) (fun hk3 => ?_)
                · apply NDr.rd [0]
                  · intro fH TH
                    exact ⟨rfl, rfl⟩
                  refine NB.yes (by simp [*]) ?_
                  apply NDr.rd [0]
                  · intro fH TH
                    exact ⟨rfl, rfl⟩
                  refine NB.yes (by simp [*]) ?_
                  apply NDr.pure
                  · exact ⟨rfl, rfl⟩
                  refine NB.yes (by simp [*]) ?_
                  apply NDr.pure
                  · exact NB.det
                  apply NDr.pure
                  · refine NB.yes (by simp [*]) ?_
                    exact ⟨rfl, rfl⟩
                  apply NDr.pure
                  · exact ⟨rfl, rfl⟩
                  refine NB.mk (fun hk9 => ?_) (fun hk9 => ?_)
                  · apply NDr.rd [0]
                    · intro fH TH
                      exact ⟨rfl, rfl⟩
                    refine NB.yes (by simp [*]) ?_
                    apply NDr.rd [0]
                    · intro fH TH
                      exact ⟨rfl, rfl⟩
                    refine NB.yes (by simp [*]) ?_
                    apply NDr.pure
                    · exact ⟨rfl, rfl⟩
                    refine NB.yes (by simp [*]) ?_
                    apply NDr.pure
                    · exact ⟨rfl, rfl⟩
                    refine NB.yes (by simp [*]) ?_
                    apply NDr.pure
                    · refine NP.mk (by omega) ?_
                      refine NG.mapN (by omega) ?_
                      exact ⟨rfl, rfl⟩
                    refine NB.yes (by simp [*]) ?_
                    apply NDr.pure
                    · exact ⟨rfl, rfl⟩
                    refine NB.yes (by simp [*]) ?_
                    apply NDr.pure
                    · exact ⟨rfl, rfl⟩
                    refine NB.yes (by simp [*]) ?_
                    apply NDr.pure
                    · exact NB.det
                    apply NDr.pure
                    · refine NB.yes (by simp [*]) ?_
                      exact ⟨rfl, rfl⟩
                    refine NP.mk (by kernel_rfl) ?_
                    refine NB.mk (fun hk19 => ?_) (fun hk19 => ?_)
                    · refine NRet.boolE (b := false) ?_ (NRet.mk [] rfl ⟨.refl _, rfl⟩)
                      grind
                    refine NW.i64 (by omega) (by omega) ?_
                    exact (Canon.mk [] rfl fin)
                  refine NB.no (by simp [*]) ?_
                  refine NB.no (by simp [*]) ?_
                  refine NB.no (by simp [*]) ?_
                  refine NB.no (by simp [*]) ?_
                  refine NB.no (by simp [*]) ?_
                  refine NB.no (by simp [*]) ?_
                  refine NB.no (by simp [*]) ?_
                  apply NDr.pure
                  · refine NB.no (by simp [*]) ?_
                    exact ⟨rfl, rfl⟩
                  refine NP.mk (by kernel_rfl) ?_
                  refine NW.i64 (by omega) (by omega) ?_
                  exact (Canon.mk [] rfl fin)
                refine NB.no (by simp [*]) ?_
                refine NB.no (by simp [*]) ?_
                refine NB.no (by simp [*]) ?_
                apply NDr.pure
                · refine NB.no (by simp [*]) ?_
                  exact ⟨rfl, rfl⟩
                apply NDr.pure
                · exact ⟨rfl, rfl⟩
                apply NDr.pure
                · exact ⟨rfl, rfl⟩
                refine NP.mk (by kernel_rfl) ?_
                refine NW.i64 (by omega) (by omega) ?_
                exact (Canon.mk [] rfl fin)
            · have : k' = l[0].drops.length := by omega
              have htk := all_end (p := fun x => !ownBad node seq l[0] x) (this ▸ htk)
              refine NP.mk (by omega) ?_
              refine NG.mapN (by omega) ?_
              refine ND.no (by (simp only [List.length_map, List.length_append, List.length_replicate, List.length_cons, List.length_nil, List.length_take, List.length_drop]; omega)) ?_
              refine NW.i64 (by omega) (by omega) ?_
              exact Canon.mk [] rfl ⟨l.length - (0 + 1), by omega, 0 + 1, by omega, rfl, seen_zero hil (hone htk), rfl, rfl⟩
        | succ k =>
          have ek : Int.toNat (((k + 1 : Nat) : Int) - 1) = k := by omega
          cases hr : atLt l[k] l[k + 1] with
          | false =>
            have hr' := hr
            unfold atLt at hr'
            rw [decide_eq_false_iff_not] at hr'
            rw [seen_r hil hr]
            refine ND.yes (by (simp only [List.length_map, List.length_append, List.length_replicate, List.length_cons, List.length_nil, List.length_take, List.length_drop]; omega)) ?_
            refine NP.mk (by omega) ?_
            refine NG.mapN (by omega) ?_
            refine NCall.call (h1) rfl rfl ?_
            refine NP.mk (by kernel_rfl) ?_
            apply NDr.pure
            · exact ⟨rfl, rfl⟩
            apply NDr.pure
            · refine ND.yes (by omega) ?_
              exact ⟨rfl, rfl⟩
            apply NDr.pure
            · exact ⟨rfl, rfl⟩
            apply NDr.pure
            · exact ⟨rfl, rfl⟩
            apply NDr.pure
            · exact ⟨rfl, rfl⟩
            apply NDr.pure
            · refine NP.mk (by omega) ?_
              refine NG.mapN (by omega) ?_
              exact ⟨rfl, rfl⟩
            apply NDr.pure
            · exact ⟨rfl, rfl⟩
            apply NDr.pure
            · exact ⟨rfl, rfl⟩
            apply NDr.pure
            · exact ⟨rfl, rfl⟩
            apply NDr.pure
            · exact ⟨rfl, rfl⟩
            apply NDr.pure
            · refine NW.i64 (by omega) (by omega) ?_
              exact ⟨rfl, rfl⟩
            apply NDr.pure
            · refine NP.mk (by omega) ?_
              rw [(ek)]
              refine NG.mapN (by omega) ?_
              exact ⟨rfl, rfl⟩
            apply NDr.pure
            · exact ⟨rfl, rfl⟩
            apply NDr.pure
            · exact ⟨rfl, rfl⟩
            apply NDr.pure
            · refine ND.yes (by omega) ?_
              exact ⟨rfl, rfl⟩
            apply NDr.pure
            · exact ⟨rfl, rfl⟩
            refine NP.mk (by kernel_rfl) ?_
            exact NRet.mk [] rfl ⟨.refl _, rfl⟩
          | true =>
            have hr' := hr
            unfold atLt at hr'
            rw [decide_eq_true_eq] at hr'
            refine ND.yes (by (simp only [List.length_map, List.length_append, List.length_replicate, List.length_cons, List.length_nil, List.length_take, List.length_drop]; omega)) ?_
            refine NP.mk (by omega) ?_
            refine NG.mapN (by omega) ?_
            refine NCall.call (h1) rfl rfl ?_
            refine NP.mk (by kernel_rfl) ?_
            apply NDr.pure
            · exact ⟨rfl, rfl⟩
            apply NDr.pure
            · refine ND.yes (by omega) ?_
              exact ⟨rfl, rfl⟩
            apply NDr.pure
            · exact ⟨rfl, rfl⟩
            apply NDr.pure
            · exact ⟨rfl, rfl⟩
            apply NDr.pure
            · exact ⟨rfl, rfl⟩
            apply NDr.pure
            · refine NP.mk (by omega) ?_
              refine NG.mapN (by omega) ?_
              exact ⟨rfl, rfl⟩
            apply NDr.pure
            · exact ⟨rfl, rfl⟩
            apply NDr.pure
            · exact ⟨rfl, rfl⟩
            apply NDr.pure
            · exact ⟨rfl, rfl⟩
            apply NDr.pure
            · exact ⟨rfl, rfl⟩
            apply NDr.pure
            · refine NW.i64 (by omega) (by omega) ?_
              exact ⟨rfl, rfl⟩
            apply NDr.pure
            · refine NP.mk (by omega) ?_
              rw [(ek)]
              refine NG.mapN (by omega) ?_
              exact ⟨rfl, rfl⟩
            apply NDr.pure
            · exact ⟨rfl, rfl⟩
            apply NDr.pure
            · exact ⟨rfl, rfl⟩
            apply NDr.pure
            · refine ND.no (by omega) ?_
              exact ⟨rfl, rfl⟩
            apply NDr.pure
            · exact ⟨rfl, rfl⟩
            refine NP.mk (by kernel_rfl) ?_
            refine NLoop.mk [] [0, 1, 2, 7, 8] (fun m vs H => ∃ k', k' ≤ l[k + 1].drops.length ∧ m = l[k + 1].drops.length - k' ∧ (∀ x ∈ l[k + 1].drops.take k', (!ownBad node seq l[k + 1] x) = true) ∧ H = [] ∧ vs = [i64 node, i64 seq, effsA l, i64 ((k + 1 : Nat) : Int), i64 k']) rfl ?_ ?_
            · exact Canon.mk [] rfl ⟨l[k + 1].drops.length, 0, Nat.zero_le _, rfl, by simp, rfl, rfl⟩
            · rintro m vs H ⟨k', hk', rfl, htk, rfl, rfl⟩
              by_cases hkl : k' < l[k + 1].drops.length
              · obtain ⟨g1, g2⟩ := all_step (p := fun x => !ownBad node seq l[k + 1] x) hkl htk
                cases hb : ownBad node seq l[k + 1] l[k + 1].drops[k'] with
                | true =>
                  rw [seen_p hil (hzero (g1 (by rw [hb]; rfl)))]
                  have hb' := hb
                  unfold ownBad at hb'
                  rw [decide_eq_true_eq] at hb'
                  refine NP.mk (by omega) ?_
                  refine NG.mapN (by omega) ?_
                  refine ND.yes (by (simp only [List.length_map, List.length_append, List.length_replicate, List.length_cons, List.length_nil, List.length_take, List.length_drop]; omega)) ?_
                  refine NP.mk (by omega) ?_
                  refine NG.mapN (by omega) ?_
                  refine NP.mk (by omega) ?_
                  refine NG.mapN (by omega) ?_
                  refine NP.mk (by kernel_rfl) ?_
                  apply NDr.rd [0]
                  · intro fH TH
                    exact ⟨rfl, rfl⟩
                  apply NDr.rd [0]
                  · intro fH TH
                    exact ⟨rfl, rfl⟩
                  apply NDr.pure
                  · exact ⟨rfl, rfl⟩
                  apply NDr.pure
                  · refine ND.yes (by omega) ?_
                    exact ⟨rfl, rfl⟩
                  apply NDr.pure
                  · exact ⟨rfl, rfl⟩
                  apply NDr.rd [0]
                  · intro fH TH
                    exact ⟨rfl, rfl⟩
                  apply NDr.rd [0]
                  · intro fH TH
                    exact ⟨rfl, rfl⟩
                  apply NDr.pure
                  · exact ⟨rfl, rfl⟩
                  apply NDr.pure
                  · refine ND.yes (by omega) ?_
                    exact ⟨rfl, rfl⟩
                  apply NDr.pure
                  · exact ⟨rfl, rfl⟩
                  apply NDr.pure
                  · exact ⟨rfl, rfl⟩
                  apply NDr.rd [0]
                  · intro fH TH
                    exact ⟨rfl, rfl⟩
                  apply NDr.rd [0]
                  · intro fH TH
                    exact ⟨rfl, rfl⟩
                  apply NDr.pure
                  · exact ⟨rfl, rfl⟩
                  apply NDr.pure
                  · exact ⟨rfl, rfl⟩
                  apply NDr.pure
                  · refine NP.mk (by omega) ?_
                    refine NG.mapN (by omega) ?_
                    exact ⟨rfl, rfl⟩
                  apply NDr.pure
                  · exact ⟨rfl, rfl⟩
                  apply NDr.pure
                  · exact ⟨rfl, rfl⟩
                  apply NDr.pure
                  · refine ND.yes (by omega) ?_
                    exact ⟨rfl, rfl⟩
                  apply NDr.pure
                  · exact ⟨rfl, rfl⟩
                  refine NP.mk (by kernel_rfl) ?_
                  exact NRet.mk [] rfl ⟨.refl _, rfl⟩
                | false =>
                  have hb' := hb
                  unfold ownBad at hb'
                  rw [decide_eq_false_iff_not] at hb'
                  have fin : ∃ m', m' < l[k + 1].drops.length - k' ∧ ∃ k'', k'' ≤ l[k + 1].drops.length ∧ m' = l[k + 1].drops.length - k'' ∧ (∀ x ∈ l[k + 1].drops.take k'', (!ownBad node seq l[k + 1] x) = true) ∧ ([] : List Blk) = [] ∧ [i64 node, i64 seq, effsA l, i64 ((k + 1 : Nat) : Int), i64 ((k' + 1 : Nat) : Int)] = [i64 node, i64 seq, effsA l, i64 ((k + 1 : Nat) : Int), i64 k''] :=
                    ⟨l[k + 1].drops.length - (k' + 1), by omega, k' + 1, by omega, rfl, g2 (by rw [hb]; rfl), rfl, rfl⟩
                  refine NP.mk (by omega) ?_
                  refine NG.mapN (by omega) ?_
                  refine ND.yes (by (simp only [List.length_map, List.length_append, List.length_replicate, List.length_cons, List.length_nil, List.length_take, List.length_drop]; omega)) ?_
                  refine NP.mk (by omega) ?_
                  refine NG.mapN (by omega) ?_
                  refine NP.mk (by omega) ?_
                  refine NG.mapN (by omega) ?_
                  refine NP.mk (by kernel_rfl) ?_
                  apply NDr.rd [0]
                  · intro fH TH
                    exact ⟨rfl, rfl⟩
                  apply NDr.rd [0]
                  · intro fH TH
                    exact ⟨rfl, rfl⟩
                  apply NDr.pure
                  · exact ⟨rfl, rfl⟩
                  apply NDr.pure
                  · exact NB.det
                  apply NDr.pure
                  · exact ⟨rfl, rfl⟩
                  refine NB.mk (fun hk3 => ?_) (fun hk3 => ?_)
                  · apply NDr.rd [0]
                    · intro fH TH
                      exact ⟨rfl, rfl⟩
                    refine NB.yes (by simp [*]) ?_
                    apply NDr.rd [0]
                    · intro fH TH
                      exact ⟨rfl, rfl⟩
                    refine NB.yes (by simp [*]) ?_
                    apply NDr.pure
                    · exact ⟨rfl, rfl⟩
                    refine NB.yes (by simp [*]) ?_
                    apply NDr.pure
                    · exact NB.det
                    apply NDr.pure
                    · refine NB.yes (by simp [*]) ?_
                      exact ⟨rfl, rfl⟩
                    apply NDr.pure
                    · exact ⟨rfl, rfl⟩
                    refine NB.mk (fun hk9 => ?_) (fun hk9 => ?_)
                    · apply NDr.rd [0]
                      · intro fH TH
                        exact ⟨rfl, rfl⟩
                      refine NB.yes (by simp [*]) ?_
                      apply NDr.rd [0]
                      · intro fH TH
                        exact ⟨rfl, rfl⟩
                      refine NB.yes (by simp [*]) ?_
                      apply NDr.pure
                      · exact ⟨rfl, rfl⟩
                      refine NB.yes (by simp [*]) ?_
                      apply NDr.pure
                      · exact ⟨rfl, rfl⟩
                      refine NB.yes (by simp [*]) ?_
                      apply NDr.pure
                      · refine NP.mk (by omega) ?_
                        refine NG.mapN (by omega) ?_
                        exact ⟨rfl, rfl⟩
                      refine NB.yes (by simp [*]) ?_
                      apply NDr.pure
                      · exact ⟨rfl, rfl⟩
                      refine NB.yes (by simp [*]) ?_
                      apply NDr.pure
                      · exact ⟨rfl, rfl⟩
                      refine NB.yes (by simp [*]) ?_
                      apply NDr.pure
                      · exact NB.det
                      apply NDr.pure
                      · refine NB.yes (by simp [*]) ?_
                        exact ⟨rfl, rfl⟩
                      refine NP.mk (by kernel_rfl) ?_
                      refine NB.mk (fun hk19 => ?_) (fun hk19 => ?_)
                      · refine NRet.boolE (b := false) ?_ (NRet.mk [] rfl ⟨.refl _, rfl⟩)
                        grind
                      refine NW.i64 (by omega) (by omega) ?_
                      exact (Canon.mk [] rfl fin)
                    refine NB.no (by simp [*]) ?_
                    refine NB.no (by simp [*]) ?_
                    refine NB.no (by simp [*]) ?_
                    refine NB.no (by simp [*]) ?_
                    refine NB.no (by simp [*]) ?_
                    refine NB.no (by simp [*]) ?_
                    refine NB.no (by simp [*]) ?_
                    apply NDr.pure
                    · refine NB.no (by simp [*]) ?_
                      exact ⟨rfl, rfl⟩
                    refine NP.mk (by kernel_rfl) ?_
                    refine NW.i64 (by omega) (by omega) ?_
                    exact (Canon.mk [] rfl fin)
                  refine NB.no (by simp [*]) ?_
                  refine NB.no (by simp [*]) ?_
                  refine NB.no (by simp [*]) ?_
                  apply NDr.pure
                  · refine NB.no (by simp [*]) ?_
                    exact ⟨rfl, rfl⟩
                  apply NDr.pure
                  · exact ⟨rfl, rfl⟩
                  apply NDr.pure
                  · exact ⟨rfl, rfl⟩
                  refine NP.mk (by kernel_rfl) ?_
                  refine NW.i64 (by omega) (by omega) ?_
                  exact (Canon.mk [] rfl fin)
              · have : k' = l[k + 1].drops.length := by omega
                have htk := all_end (p := fun x => !ownBad node seq l[k + 1] x) (this ▸ htk)
                refine NP.mk (by omega) ?_
                refine NG.mapN (by omega) ?_
                refine ND.no (by (simp only [List.length_map, List.length_append, List.length_replicate, List.length_cons, List.length_nil, List.length_take, List.length_drop]; omega)) ?_
                refine NW.i64 (by omega) (by omega) ?_
                exact Canon.mk [] rfl ⟨l.length - (k + 1 + 1), by omega, k + 1 + 1, by omega, rfl, seen_succ hil hs (hone htk) hr, rfl, rfl⟩
    · have : i = l.length := by omega
      subst this
      rw [seen_end hs]
      refine ND.no (by (simp only [List.length_map, List.length_append, List.length_replicate, List.length_cons, List.length_nil, List.length_take, List.length_drop]; omega)) ?_
      exact NRet.mk [] rfl ⟨.refl _, rfl⟩
theorem rightF_walk (node seq : Int) (e : Eff) (d : Dot) : ACalls Try.prog Nm.eff_Right_1 [dotA d, .ptr 0 0 0, .ptr 1 0 0, .ptr 2 0 0] [.row .box .leaf [i64 node], .row .box .leaf [i64 seq], .row .box (.agg 7) [effA e]] (.bool (ownBad node seq e d)) [.row .box .leaf [i64 node], .row .box .leaf [i64 seq], .row .box (.agg 7) [effA e]] := by
  refine ACalls_of tab (dr_snd tab mixed) Nm.eff_Right_1_h rfl (by kernel_rfl) (Nat.le_of_ble_eq_true rfl) rfl ?_
  rw [ownBad]
  refine NB.dec (fun hk1 => ?_) (fun hk1 => ?_)
  · refine NB.dec (fun hk2 => ?_) (fun hk2 => ?_)
    · refine NB.dec (fun hk3 => ?_) (fun hk3 => ?_)
      · refine NRet.boolE (b := true) ?_ (NRet.mk [] rfl ⟨.refl _, rfl⟩)
        (simp only [decide_eq_true_eq, decide_eq_false_iff_not, eq_comm (a := true), eq_comm (a := false)]; omega)
      refine NRet.boolE (b := false) ?_ (NRet.mk [] rfl ⟨.refl _, rfl⟩)
      (simp only [decide_eq_true_eq, decide_eq_false_iff_not, eq_comm (a := true), eq_comm (a := false)]; omega)
    refine NRet.boolE (b := false) ?_ (NRet.mk [] rfl ⟨.refl _, rfl⟩)
    (simp only [decide_eq_true_eq, decide_eq_false_iff_not, eq_comm (a := true), eq_comm (a := false)]; omega)
  refine NRet.boolE (b := false) ?_ (NRet.mk [] rfl ⟨.refl _, rfl⟩)
  (simp only [decide_eq_true_eq, decide_eq_false_iff_not, eq_comm (a := true), eq_comm (a := false)]; omega)
def H3 (node seq : Int) (e : Eff) : List Blk := [.row .box .leaf [i64 node], .row .box .leaf [i64 seq], .row .box (.agg 7) [effA e]]
/-- slices.IndexFunc of dots; the function looks into three boxes. -/
theorem indexD_walk (g : Nat) (node seq : Int) (e : Eff) (l : List Dot) (p : Dot → Bool) (hl : l.length ≤ 2 ^ 40) (hg : ∀ d ∈ l, ACalls Try.prog g [dotA d, .ptr 0 0 0, .ptr 1 0 0, .ptr 2 0 0] (H3 node seq e) (.bool (p d)) (H3 node seq e)) :
    ACalls Try.prog Nm.slices_IndexFunc_api_Dot_api_Dot [dotsA l, .fn g [.ptr 0 0 0, .ptr 1 0 0, .ptr 2 0 0]] (H3 node seq e) (i64 (ixI p l)) (H3 node seq e) := by
  unfold H3 at *
  refine ACalls_of tab (dr_snd tab mixed) Nm.slices_IndexFunc_api_Dot_api_Dot_h rfl (by kernel_rfl) (Nat.le_of_ble_eq_true rfl) rfl ?_
  refine NLoop.mk [] [0, 1, 6, 7, 8] (fun m vs H => ∃ i, i ≤ l.length ∧ m = l.length - i ∧ (∀ x ∈ l.take i, p x = false) ∧ H = [.row .box .leaf [i64 node], .row .box .leaf [i64 seq], .row .box (.agg 7) [effA e]] ∧ vs = [dotsA l, .fn g [.ptr 0 0 0, .ptr 1 0 0, .ptr 2 0 0], dotsA l, i64 l.length, i64 i]) rfl ?_ ?_
  · exact Canon.mk [] rfl ⟨l.length, 0, Nat.zero_le _, rfl, by simp, rfl, by simp [dotsA, i64]⟩
  · rintro m vs H ⟨i, hi, rfl, ht, rfl, rfl⟩
    by_cases hil : i < l.length
    · have hc := hg _ (List.getElem_mem hil)
      obtain ⟨f1, f2⟩ := find_step hil ht
      cases hp : p l[i] with
      | true =>
        rw [hp] at hc
        rw [f1 hp]
        refine ND.yes (by omega) ?_
        refine NP.mk (by omega) ?_
        refine NG.mapN (by omega) ?_
        refine NCall.atA (hc) ?_
        exact NRet.mk [] rfl ⟨.refl _, rfl⟩
      | false =>
        rw [hp] at hc
        refine ND.yes (by omega) ?_
        refine NP.mk (by omega) ?_
        refine NG.mapN (by omega) ?_
        refine NCall.atA (hc) ?_
        refine NW.i64 (by omega) (by omega) ?_
        exact Canon.mk [] rfl ⟨l.length - (i + 1), by omega, i + 1, by omega, rfl, f2 hp, rfl, rfl⟩
    · have : i = l.length := by omega
      subst this
      rw [List.take_length] at ht
      rw [find_none ht]
      refine ND.no (by omega) ?_
      exact NRet.mk [] rfl ⟨.refl _, rfl⟩
theorem containsD_walk (g : Nat) (node seq : Int) (e : Eff) (l : List Dot) (p : Dot → Bool) (hl : l.length ≤ 2 ^ 40) (hg : ∀ d ∈ l, ACalls Try.prog g [dotA d, .ptr 0 0 0, .ptr 1 0 0, .ptr 2 0 0] (H3 node seq e) (.bool (p d)) (H3 node seq e)) :
    ACalls Try.prog Nm.slices_ContainsFunc_api_Dot_api_Dot [dotsA l, .fn g [.ptr 0 0 0, .ptr 1 0 0, .ptr 2 0 0]] (H3 node seq e) (.bool (l.any p)) (H3 node seq e) := by
  have hi := indexD_walk g node seq e l p hl hg
  unfold H3 at *
  refine ACalls_of tab (dr_snd tab mixed) Nm.slices_ContainsFunc_api_Dot_api_Dot_h rfl (by kernel_rfl) (Nat.le_of_ble_eq_true rfl) rfl ?_
  rw [ixI_any]
  by_cases h : 0 ≤ ixI p l
  · rw [decide_eq_true h]
    refine NCall.atA (hi) ?_
    refine ND.yes (by omega) ?_
    exact NRet.mk [] rfl ⟨.refl _, rfl⟩
  · rw [decide_eq_false h]
    refine NCall.atA (hi) ?_
    refine ND.no (by omega) ?_
    exact NRet.mk [] rfl ⟨.refl _, rfl⟩
theorem right_walk (node seq : Int) (l : List Eff) (hl : l.length ≤ 2 ^ 40) (hx : ∀ e ∈ l, smEff e) : ACalls Try.prog Nm.eff_Right [i64 node, i64 seq, effsA l] [] (.bool (effsOk node seq l)) [] := by
  refine ACalls_of tab (dr_snd tab mixed) Nm.eff_Right_h rfl (by kernel_rfl) (Nat.le_of_ble_eq_true rfl) rfl ?_
  have e0 : effsOk node seq l = (l.all (eff1 node seq) && adj atLt l) := rfl
  rw [e0]
  refine NLoop.mk [] [2, 3, 4, 9, 10, 11] (fun m vs H => ∃ i, i ≤ l.length ∧ m = l.length - i ∧ Seen (eff1 node seq) atLt l i ∧ H = [.row .box .leaf [i64 node], .row .box .leaf [i64 seq]] ∧ vs = [effsA l, .ptr 0 0 0, .ptr 1 0 0, effsA l, i64 l.length, i64 i]) rfl ?_ ?_
  · exact Canon.mk [0, 1] rfl ⟨l.length, 0, Nat.zero_le _, rfl, seen0 _ _ _, rfl, by simp [effsA, i64]⟩
  · rintro m vs H ⟨i, hi, rfl, hs, rfl, rfl⟩
    by_cases hil : i < l.length
    · have hxi := hx _ (List.getElem_mem hil)
      have h1 := effFormed_walk node seq l[i] hxi
      have h64 := hxi.2.2.2
      cases hp : effOk node seq l[i] with
      | false =>
        rw [hp] at h1
        rw [seen_p hil (by unfold eff1; rw [hp, Bool.false_and])]
        refine ND.yes (by omega) ?_
        refine NP.mk (by omega) ?_
        refine NG.mapN (by omega) ?_
        refine NP.mk (by kernel_rfl) ?_
        apply NDr.rd [0]
        · intro fH TH
          exact ⟨rfl, rfl⟩
        apply NDr.rd [1]
        · intro fH TH
          exact ⟨rfl, rfl⟩
        apply NDr.rd [2]
        · intro fH TH
          exact ⟨rfl, rfl⟩
        apply NDr.pure
        · refine NCall.call (h1) rfl rfl ?_
          exact ⟨rfl, rfl⟩
        apply NDr.pure
        · exact ⟨rfl, rfl⟩
        apply NDr.pure
        · exact ⟨rfl, rfl⟩
        apply NDr.pure
        · exact ⟨rfl, rfl⟩
        refine NP.mk (by kernel_rfl) ?_
        exact NRet.mk [] rfl ⟨.refl _, rfl⟩
      | true =>
        rw [hp] at h1
        have h2 := containsD_walk Nm.eff_Right_1 node seq l[i] l[i].drops (ownBad node seq l[i]) h64 (fun d _ => rightF_walk node seq l[i] d)
        unfold H3 at h2
        cases hb : l[i].drops.any (ownBad node seq l[i]) with
        | true =>
          rw [hb] at h2
          have e1 : eff1 node seq l[i] = false := by unfold eff1; rw [hp, Bool.true_and, ownOk_any, hb]; rfl
          rw [seen_p hil e1]
          cases i with
          | zero => refine ND.yes (by omega) ?_
                    refine NP.mk (by omega) ?_
                    refine NG.mapN (by omega) ?_
                    refine NP.mk (by kernel_rfl) ?_
                    apply NDr.rd [0]
                    · intro fH TH
                      exact ⟨rfl, rfl⟩
                    apply NDr.rd [1]
                    · intro fH TH
                      exact ⟨rfl, rfl⟩
                    apply NDr.rd [2]
                    · intro fH TH
                      exact ⟨rfl, rfl⟩
                    apply NDr.pure
                    · refine NCall.call (h1) rfl rfl ?_
                      exact ⟨rfl, rfl⟩
                    apply NDr.pure
                    · exact ⟨rfl, rfl⟩
                    apply NDr.pure
                    · exact ⟨rfl, rfl⟩
                    apply NDr.pure
                    · exact ⟨rfl, rfl⟩
                    apply NDr.pure
                    · refine ND.no (by omega) ?_
                      exact ⟨rfl, rfl⟩
                    apply NDr.pure
                    · exact ⟨rfl, rfl⟩
                    apply NDr.pure
                    · exact ⟨rfl, rfl⟩
                    apply NDr.pure
                    · exact ⟨rfl, rfl⟩
                    refine NP.mk (by kernel_rfl) ?_
                    refine NCall.atA (h2) ?_
                    exact NRet.mk [] rfl ⟨.refl _, rfl⟩
          | succ k =>
            have ek : Int.toNat (((k + 1 : Nat) : Int) - 1) = k := by omega
            refine ND.yes (by omega) ?_
            refine NP.mk (by omega) ?_
            refine NG.mapN (by omega) ?_
            refine NP.mk (by kernel_rfl) ?_
            apply NDr.rd [0]
            · intro fH TH
              exact ⟨rfl, rfl⟩
            apply NDr.rd [1]
            · intro fH TH
              exact ⟨rfl, rfl⟩
            apply NDr.rd [2]
            · intro fH TH
              exact ⟨rfl, rfl⟩
            apply NDr.pure
            · refine NCall.call (h1) rfl rfl ?_
              exact ⟨rfl, rfl⟩
            apply NDr.pure
            · exact ⟨rfl, rfl⟩
            apply NDr.pure
            · exact ⟨rfl, rfl⟩
            apply NDr.pure
            · exact ⟨rfl, rfl⟩
            apply NDr.pure
            · refine ND.yes (by omega) ?_
              exact ⟨rfl, rfl⟩
            apply NDr.pure
            · exact ⟨rfl, rfl⟩
            apply NDr.pure
            · exact ⟨rfl, rfl⟩
            apply NDr.pure
            · exact ⟨rfl, rfl⟩
            apply NDr.pure
            · refine NW.i64 (by omega) (by omega) ?_
              exact ⟨rfl, rfl⟩
            apply NDr.pure
            · refine NP.mk (by omega) ?_
              rw [(ek)]
              refine NG.mapN (by omega) ?_
              exact ⟨rfl, rfl⟩
            apply NDr.pure
            · exact ⟨rfl, rfl⟩
            apply NDr.pure
            · exact ⟨rfl, rfl⟩
            apply NDr.rd [2]
            · intro fH TH
              exact ⟨rfl, rfl⟩
            apply NDr.rd [2]
            · intro fH TH
              exact ⟨rfl, rfl⟩
            apply NDr.pure
            · exact NB.det
            apply NDr.pure
            · exact ⟨rfl, rfl⟩
            apply NDr.pure
            · exact ⟨rfl, rfl⟩
            refine NP.mk (by kernel_rfl) ?_
            refine NB.mk (fun hk4 => ?_) (fun hk4 => ?_)
            · exact NRet.mk [] rfl ⟨.refl _, rfl⟩
            refine NCall.atA (h2) ?_
            exact NRet.mk [] rfl ⟨.refl _, rfl⟩
        | false =>
          rw [hb] at h2
          have e1 : eff1 node seq l[i] = true := by unfold eff1; rw [hp, Bool.true_and, ownOk_any, hb]; rfl
          cases i with
          | zero =>
            refine ND.yes (by omega) ?_
            refine NP.mk (by omega) ?_
            refine NG.mapN (by omega) ?_
            refine NP.mk (by kernel_rfl) ?_
            apply NDr.rd [0]
            · intro fH TH
              exact ⟨rfl, rfl⟩
            apply NDr.rd [1]
            · intro fH TH
              exact ⟨rfl, rfl⟩
            apply NDr.rd [2]
            · intro fH TH
              exact ⟨rfl, rfl⟩
            apply NDr.pure
            · refine NCall.call (h1) rfl rfl ?_
              exact ⟨rfl, rfl⟩
            apply NDr.pure
            · exact ⟨rfl, rfl⟩
            apply NDr.pure
            · exact ⟨rfl, rfl⟩
            apply NDr.pure
            · exact ⟨rfl, rfl⟩
            apply NDr.pure
            · refine ND.no (by omega) ?_
              exact ⟨rfl, rfl⟩
            apply NDr.pure
            · exact ⟨rfl, rfl⟩
            apply NDr.pure
            · exact ⟨rfl, rfl⟩
            apply NDr.pure
            · exact ⟨rfl, rfl⟩
            refine NP.mk (by kernel_rfl) ?_
            refine NCall.atA (h2) ?_
            refine NW.i64 (by omega) (by omega) ?_
            exact Canon.mk [0, 1] rfl ⟨l.length - (0 + 1), by omega, 0 + 1, by omega, rfl, seen_zero hil e1, rfl, rfl⟩
          | succ k =>
            have ek : Int.toNat (((k + 1 : Nat) : Int) - 1) = k := by omega
            cases hr : atLt l[k] l[k + 1] with
            | false =>
              have hr' := hr
              unfold atLt at hr'
              rw [decide_eq_false_iff_not] at hr'
              rw [seen_r hil hr]
              refine ND.yes (by omega) ?_
              refine NP.mk (by omega) ?_
              refine NG.mapN (by omega) ?_
              refine NP.mk (by kernel_rfl) ?_
              apply NDr.rd [0]
              · intro fH TH
                exact ⟨rfl, rfl⟩
              apply NDr.rd [1]
              · intro fH TH
                exact ⟨rfl, rfl⟩
              apply NDr.rd [2]
              · intro fH TH
                exact ⟨rfl, rfl⟩
              apply NDr.pure
              · refine NCall.call (h1) rfl rfl ?_
                exact ⟨rfl, rfl⟩
              apply NDr.pure
              · exact ⟨rfl, rfl⟩
              apply NDr.pure
              · exact ⟨rfl, rfl⟩
              apply NDr.pure
              · exact ⟨rfl, rfl⟩
              apply NDr.pure
              · refine ND.yes (by omega) ?_
                exact ⟨rfl, rfl⟩
              apply NDr.pure
              · exact ⟨rfl, rfl⟩
              apply NDr.pure
              · exact ⟨rfl, rfl⟩
              apply NDr.pure
              · exact ⟨rfl, rfl⟩
              apply NDr.pure
              · refine NW.i64 (by omega) (by omega) ?_
                exact ⟨rfl, rfl⟩
              apply NDr.pure
              · refine NP.mk (by omega) ?_
                rw [(ek)]
                refine NG.mapN (by omega) ?_
                exact ⟨rfl, rfl⟩
              apply NDr.pure
              · exact ⟨rfl, rfl⟩
              apply NDr.pure
              · exact ⟨rfl, rfl⟩
              apply NDr.rd [2]
              · intro fH TH
                exact ⟨rfl, rfl⟩
              apply NDr.rd [2]
              · intro fH TH
                exact ⟨rfl, rfl⟩
              apply NDr.pure
              · refine ND.yes (by omega) ?_
                exact ⟨rfl, rfl⟩
              apply NDr.pure
              · exact ⟨rfl, rfl⟩
              apply NDr.pure
              · exact ⟨rfl, rfl⟩
              refine NP.mk (by kernel_rfl) ?_
              exact NRet.mk [] rfl ⟨.refl _, rfl⟩
            | true =>
              have hr' := hr
              unfold atLt at hr'
              rw [decide_eq_true_eq] at hr'
              refine ND.yes (by omega) ?_
              refine NP.mk (by omega) ?_
              refine NG.mapN (by omega) ?_
              refine NP.mk (by kernel_rfl) ?_
              apply NDr.rd [0]
              · intro fH TH
                exact ⟨rfl, rfl⟩
              apply NDr.rd [1]
              · intro fH TH
                exact ⟨rfl, rfl⟩
              apply NDr.rd [2]
              · intro fH TH
                exact ⟨rfl, rfl⟩
              apply NDr.pure
              · refine NCall.call (h1) rfl rfl ?_
                exact ⟨rfl, rfl⟩
              apply NDr.pure
              · exact ⟨rfl, rfl⟩
              apply NDr.pure
              · exact ⟨rfl, rfl⟩
              apply NDr.pure
              · exact ⟨rfl, rfl⟩
              apply NDr.pure
              · refine ND.yes (by omega) ?_
                exact ⟨rfl, rfl⟩
              apply NDr.pure
              · exact ⟨rfl, rfl⟩
              apply NDr.pure
              · exact ⟨rfl, rfl⟩
              apply NDr.pure
              · exact ⟨rfl, rfl⟩
              apply NDr.pure
              · refine NW.i64 (by omega) (by omega) ?_
                exact ⟨rfl, rfl⟩
              apply NDr.pure
              · refine NP.mk (by omega) ?_
                rw [(ek)]
                refine NG.mapN (by omega) ?_
                exact ⟨rfl, rfl⟩
              apply NDr.pure
              · exact ⟨rfl, rfl⟩
              apply NDr.pure
              · exact ⟨rfl, rfl⟩
              apply NDr.rd [2]
              · intro fH TH
                exact ⟨rfl, rfl⟩
              apply NDr.rd [2]
              · intro fH TH
                exact ⟨rfl, rfl⟩
              apply NDr.pure
              · refine ND.no (by omega) ?_
                exact ⟨rfl, rfl⟩
              apply NDr.pure
              · exact ⟨rfl, rfl⟩
              apply NDr.pure
              · exact ⟨rfl, rfl⟩
              refine NP.mk (by kernel_rfl) ?_
              refine NCall.atA (h2) ?_
              refine NW.i64 (by omega) (by omega) ?_
              exact Canon.mk [0, 1] rfl ⟨l.length - (k + 1 + 1), by omega, k + 1 + 1, by omega, rfl, seen_succ hil hs e1 hr, rfl, rfl⟩
    · have : i = l.length := by omega
      subst this
      rw [seen_end hs]
      refine ND.no (by omega) ?_
      exact NRet.mk [] rfl ⟨.refl _, rfl⟩
end Go.Bv
namespace Go.Bv
set_option linter.unusedSimpArgs false
set_option linter.unusedVariables false
set_option maxHeartbeats 4000000
open Go Go.Proofs

theorem equalV_walk (a b : List Int) (ha : a.length ≤ 2 ^ 40) : ACalls Try.prog Nm.slices_Equal_api_Vec_int [ints a, ints b] [] (.bool (decide (a = b))) [] := by
  refine ACalls_of tab (dr_snd tab mixed) Nm.slices_Equal_api_Vec_int_h rfl (by kernel_rfl) (Nat.le_of_ble_eq_true rfl) rfl ?_
  by_cases hl : a.length = b.length
  · refine ND.yes (by (simp only [List.length_map, List.length_append, List.length_replicate, List.length_cons, List.length_nil, List.length_take, List.length_drop]; omega)) ?_
    refine NLoop.mk [] [0, 1, 11, 12, 13] (fun m vs H => ∃ i, i ≤ a.length ∧ m = a.length - i ∧ a.take i = b.take i ∧ H = [] ∧ vs = [ints a, ints b, ints a, i64 a.length, i64 i]) rfl ?_ ?_
    · exact Canon.mk [] rfl ⟨a.length, 0, Nat.zero_le _, rfl, rfl, rfl, by simp [ints, i64]⟩
    · rintro m vs H ⟨i, hi, rfl, ht, rfl, rfl⟩
      by_cases hil : i < a.length
      · have hib : i < b.length := by omega
        by_cases he : a[i] = b[i]
        · refine ND.yes (by omega) ?_
          refine NP.mk (by kernel_rfl) ?_
          apply NDr.pure
          · exact ⟨rfl, rfl⟩
          apply NDr.pure
          · exact ⟨rfl, rfl⟩
          apply NDr.pure
          · refine NP.mk (by omega) ?_
            refine NG.mapN (by omega) ?_
            exact ⟨rfl, rfl⟩
          apply NDr.pure
          · exact ⟨rfl, rfl⟩
          apply NDr.pure
          · exact ⟨rfl, rfl⟩
          apply NDr.pure
          · exact ⟨rfl, rfl⟩
          apply NDr.pure
          · refine NP.mk (by omega) ?_
            refine NG.mapN (by omega) ?_
            exact ⟨rfl, rfl⟩
          apply NDr.pure
          · exact ⟨rfl, rfl⟩
          apply NDr.pure
          · refine ND.yes (by omega) ?_
            exact ⟨rfl, rfl⟩
          refine NP.mk (by kernel_rfl) ?_
          refine NW.i64 (by omega) (by omega) ?_
          exact Canon.mk [] rfl ⟨a.length - (i + 1), by omega, i + 1, by omega, rfl, take_eq_next ht hil hib he, rfl, rfl⟩
        · rw [decide_eq_false fun e => he (by simp only [e])]
          refine ND.yes (by omega) ?_
          refine NP.mk (by kernel_rfl) ?_
          apply NDr.pure
          · exact ⟨rfl, rfl⟩
          apply NDr.pure
          · exact ⟨rfl, rfl⟩
          apply NDr.pure
          · refine NP.mk (by omega) ?_
            refine NG.mapN (by omega) ?_
            exact ⟨rfl, rfl⟩
          apply NDr.pure
          · exact ⟨rfl, rfl⟩
          apply NDr.pure
          · exact ⟨rfl, rfl⟩
          apply NDr.pure
          · exact ⟨rfl, rfl⟩
          apply NDr.pure
          · refine NP.mk (by omega) ?_
            refine NG.mapN (by omega) ?_
            exact ⟨rfl, rfl⟩
          apply NDr.pure
          · exact ⟨rfl, rfl⟩
          apply NDr.pure
          · refine ND.no (by omega) ?_
            exact ⟨rfl, rfl⟩
          refine NP.mk (by kernel_rfl) ?_
          exact NRet.mk [] rfl ⟨.refl _, rfl⟩
      · have : i = a.length := by omega
        subst this
        rw [decide_eq_true (take_eq_end hl ht)]
        refine ND.no (by omega) ?_
        exact NRet.mk [] rfl ⟨.refl _, rfl⟩
  · rw [decide_eq_false fun e => hl (by rw [e])]
    refine ND.no (by (simp only [List.length_map, List.length_append, List.length_replicate, List.length_cons, List.length_nil, List.length_take, List.length_drop]; omega)) ?_
    exact NRet.mk [] rfl ⟨.refl _, rfl⟩
theorem formF_walk (n : Int) : ACalls Try.prog Nm.txn_Formed_1 [i64 n] [] (.bool (decide (1073741824 < n))) [] := by
  refine ACalls_of tab (dr_snd tab mixed) Nm.txn_Formed_1_h rfl (by kernel_rfl) (Nat.le_of_ble_eq_true rfl) rfl ?_
  refine NB.dec (fun hk1 => ?_) (fun hk1 => ?_)
  · refine NRet.boolE (b := true) ?_ (NRet.mk [] rfl ⟨.refl _, rfl⟩)
    (simp only [decide_eq_true_eq, decide_eq_false_iff_not, eq_comm (a := true), eq_comm (a := false)]; omega)
  refine NRet.boolE (b := false) ?_ (NRet.mk [] rfl ⟨.refl _, rfl⟩)
  (simp only [decide_eq_true_eq, decide_eq_false_iff_not, eq_comm (a := true), eq_comm (a := false)]; omega)
theorem indexV_walk (g : Nat) (l : List Int) (p : Int → Bool) (hl : l.length ≤ 2 ^ 40) (hg : ∀ d ∈ l, ACalls Try.prog g [i64 d] [] (.bool (p d)) []) :
    ACalls Try.prog Nm.slices_IndexFunc_api_Vec_int [ints l, .fn g []] [] (i64 (ixI p l)) [] := by
  refine ACalls_of tab (dr_snd tab mixed) Nm.slices_IndexFunc_api_Vec_int_h rfl (by kernel_rfl) (Nat.le_of_ble_eq_true rfl) rfl ?_
  refine NLoop.mk [] [0, 1, 6, 7, 8] (fun m vs H => ∃ i, i ≤ l.length ∧ m = l.length - i ∧ (∀ x ∈ l.take i, p x = false) ∧ H = [] ∧ vs = [ints l, .fn g [], ints l, i64 l.length, i64 i]) rfl ?_ ?_
  · exact Canon.mk [] rfl ⟨l.length, 0, Nat.zero_le _, rfl, by simp, rfl, by simp [ints, i64]⟩
  · rintro m vs H ⟨i, hi, rfl, ht, rfl, rfl⟩
    by_cases hil : i < l.length
    · have hc := hg _ (List.getElem_mem hil)
      obtain ⟨f1, f2⟩ := find_step hil ht
      cases hp : p l[i] with
      | true =>
        rw [hp] at hc
        rw [f1 hp]
        refine ND.yes (by omega) ?_
        refine NP.mk (by omega) ?_
        refine NG.mapN (by omega) ?_
        refine NCall.call (hc) rfl rfl ?_
        exact NRet.mk [] rfl ⟨.refl _, rfl⟩
      | false =>
        rw [hp] at hc
        refine ND.yes (by omega) ?_
        refine NP.mk (by omega) ?_
        refine NG.mapN (by omega) ?_
        refine NCall.call (hc) rfl rfl ?_
        refine NW.i64 (by omega) (by omega) ?_
        exact Canon.mk [] rfl ⟨l.length - (i + 1), by omega, i + 1, by omega, rfl, f2 hp, rfl, rfl⟩
    · have : i = l.length := by omega
      subst this
      rw [List.take_length] at ht
      rw [find_none ht]
      refine ND.no (by omega) ?_
      exact NRet.mk [] rfl ⟨.refl _, rfl⟩
theorem containsV_walk (g : Nat) (l : List Int) (p : Int → Bool) (hl : l.length ≤ 2 ^ 40) (hg : ∀ d ∈ l, ACalls Try.prog g [i64 d] [] (.bool (p d)) []) :
    ACalls Try.prog Nm.slices_ContainsFunc_api_Vec_int [ints l, .fn g []] [] (.bool (l.any p)) [] := by
  have hi := indexV_walk g l p hl hg
  refine ACalls_of tab (dr_snd tab mixed) Nm.slices_ContainsFunc_api_Vec_int_h rfl (by kernel_rfl) (Nat.le_of_ble_eq_true rfl) rfl ?_
  rw [ixI_any]
  by_cases h : 0 ≤ ixI p l
  · rw [decide_eq_true h]
    refine NCall.call (hi) rfl rfl ?_
    refine ND.yes (by omega) ?_
    exact NRet.mk [] rfl ⟨.refl _, rfl⟩
  · rw [decide_eq_false h]
    refine NCall.call (hi) rfl rfl ?_
    refine ND.no (by omega) ?_
    exact NRet.mk [] rfl ⟨.refl _, rfl⟩
theorem all_le (v : List Int) : (v.all fun n => decide (n ≤ 1073741824)) = !v.any fun n => decide (1073741824 < n) := by
  rw [List.not_any_eq_all_not]
  congr 1; funext n
  by_cases h : n ≤ 1073741824
  · simp [h, Int.not_lt.2 h]
  · simp [h, Int.not_le.1 h]
theorem vatI_nonneg (v : List Int) (n : Int) : 0 ≤ vatI v n := by
  unfold vatI; split
  · exact Int.le_refl _
  · exact vat_nonneg _ _
theorem vat_le {v : List Int} {m : Int} (h : ∀ x ∈ v, x ≤ m) (hm : 0 ≤ m) (i : Nat) : vat v i ≤ m := by
  rcases Nat.lt_or_ge i v.length with hi | hi
  · rw [vat_in hi]; have := h _ (List.getElem_mem hi); omega
  · rw [vat_out hi]; exact hm
theorem vatI_le {v : List Int} {m : Int} (h : ∀ x ∈ v, x ≤ m) (hm : 0 ≤ m) (n : Int) : vatI v n ≤ m := by
  unfold vatI; split
  · exact hm
  · exact vat_le h hm _
theorem formed_walk (t : Txn) (ht : smTxn t) : ACalls Try.prog Nm.txn_Formed [txnA t] [] (.bool (formed t)) [] := by
  refine ACalls_of tab (dr_snd tab mixed) Nm.txn_Formed_h rfl (by kernel_rfl) (Nat.le_of_ble_eq_true rfl) rfl ?_
  obtain ⟨hs, h1, h2, h3⟩ := ht
  have k1 := vecTrim_walk t.deps (by omega)
  have k2 := equalV_walk (trim t.deps) t.deps (Nat.le_trans (trim_len _) (by omega))
  have k3 := vecAt_walk t.deps t.node (by omega)
  have k4 := containsV_walk Nm.txn_Formed_1 t.deps (fun n => decide (1073741824 < n)) (by omega) (fun n _ => formF_walk n)
  have k5 := right_walk t.node t.seq t.effs (by omega) h3
  have k6 := effHeard_walk t.effs t.node t.seq t.deps (by omega) h3 (by omega)
  obtain ⟨hs1, hs2⟩ := hs
  refine NB.dec (fun hk1 => ?_) (fun hk1 => ?_)
  · refine NRet.boolE (b := false) ?_ (NRet.mk [] rfl ⟨.refl _, rfl⟩)
    grind [formed, vecOk, all_le]
  refine NB.dec (fun hk2 => ?_) (fun hk2 => ?_)
  · refine NRet.boolE (b := false) ?_ (NRet.mk [] rfl ⟨.refl _, rfl⟩)
    grind [formed, vecOk, all_le]
  refine NB.dec (fun hk3 => ?_) (fun hk3 => ?_)
  · refine NRet.boolE (b := false) ?_ (NRet.mk [] rfl ⟨.refl _, rfl⟩)
    grind [formed, vecOk, all_le]
  refine NB.dec (fun hk4 => ?_) (fun hk4 => ?_)
  · refine NRet.boolE (b := false) ?_ (NRet.mk [] rfl ⟨.refl _, rfl⟩)
    grind [formed, vecOk, all_le]
  refine NB.dec (fun hk5 => ?_) (fun hk5 => ?_)
  · refine NRet.boolE (b := false) ?_ (NRet.mk [] rfl ⟨.refl _, rfl⟩)
    grind [formed, vecOk, all_le]
  refine NB.dec (fun hk6 => ?_) (fun hk6 => ?_)
  · refine NRet.boolE (b := false) ?_ (NRet.mk [] rfl ⟨.refl _, rfl⟩)
    grind [formed, vecOk, all_le]
  refine NP.mk (by kernel_rfl) ?_
  apply NDr.rd [0]
  · intro fH TH
    exact ⟨rfl, rfl⟩
  apply NDr.rd [0]
  · intro fH TH
    exact ⟨rfl, rfl⟩
  apply NDr.pure
  · refine NCall.call (k1) rfl rfl ?_
    exact ⟨rfl, rfl⟩
  apply NDr.rd [0]
  · intro fH TH
    exact ⟨rfl, rfl⟩
  apply NDr.rd [0]
  · intro fH TH
    exact ⟨rfl, rfl⟩
  apply NDr.pure
  · refine NCall.call (k2) rfl rfl ?_
    exact ⟨rfl, rfl⟩
  apply NDr.pure
  · exact NB.det0'
  apply NDr.pure
  · exact ⟨rfl, rfl⟩
  refine NB.mk (fun hk7 => ?_) (fun hk7 => ?_)
  · refine NB.yes (by assumption) ?_
    refine NB.yes (by assumption) ?_
    refine NB.yes (by assumption) ?_
    refine NB.yes (by assumption) ?_
    refine NB.yes (by assumption) ?_
    refine NB.yes (by assumption) ?_
    refine NB.yes (by assumption) ?_
    refine NB.yes (by assumption) ?_
    apply NDr.pure
    · refine NB.yes (by assumption) ?_
      exact ⟨rfl, rfl⟩
    apply NDr.pure
    · exact ⟨rfl, rfl⟩
    apply NDr.pure
    · exact ⟨rfl, rfl⟩
    refine NP.mk (by kernel_rfl) ?_
    refine NRet.boolE (b := false) ?_ (NRet.mk [] rfl ⟨.refl _, rfl⟩)
    grind [formed, vecOk, all_le]
  apply NDr.rd [0]
  · intro fH TH
    exact ⟨rfl, rfl⟩
  refine NB.no (by assumption) ?_
  apply NDr.rd [0]
  · intro fH TH
    exact ⟨rfl, rfl⟩
  refine NB.no (by assumption) ?_
  apply NDr.rd [0]
  · intro fH TH
    exact ⟨rfl, rfl⟩
  refine NB.no (by assumption) ?_
  apply NDr.rd [0]
  · intro fH TH
    exact ⟨rfl, rfl⟩
  refine NB.no (by assumption) ?_
  apply NDr.pure
  · refine NCall.call (k3) rfl rfl ?_
    exact ⟨rfl, rfl⟩
  refine NB.no (by assumption) ?_
  apply NDr.rd [0]
  · intro fH TH
    exact ⟨rfl, rfl⟩
  refine NB.no (by assumption) ?_
  apply NDr.rd [0]
  · intro fH TH
    exact ⟨rfl, rfl⟩
  refine NB.no (by assumption) ?_
  apply NDr.pure
  · refine NW.i64 (by omega) (by omega) ?_
    exact ⟨rfl, rfl⟩
  refine NB.no (by assumption) ?_
  apply NDr.pure
  · exact NB.det'
  apply NDr.pure
  · refine NB.no (by assumption) ?_
    exact ⟨rfl, rfl⟩
  apply NDr.pure
  · exact ⟨rfl, rfl⟩
  refine NB.mk (fun hk27 => ?_) (fun hk27 => ?_)
  · refine NB.yes (by assumption) ?_
    refine NB.yes (by assumption) ?_
    apply NDr.pure
    · refine NB.yes (by assumption) ?_
      exact ⟨rfl, rfl⟩
    refine NP.mk (by kernel_rfl) ?_
    refine NRet.boolE (b := false) ?_ (NRet.mk [] rfl ⟨.refl _, rfl⟩)
    grind [formed, vecOk, all_le]
  apply NDr.rd [0]
  · intro fH TH
    exact ⟨rfl, rfl⟩
  refine NB.no (by assumption) ?_
  apply NDr.rd [0]
  · intro fH TH
    exact ⟨rfl, rfl⟩
  refine NB.no (by assumption) ?_
  apply NDr.pure
  · refine NCall.call (k4) rfl rfl ?_
    exact ⟨rfl, rfl⟩
  apply NDr.pure
  · refine NB.no (by assumption) ?_
    exact ⟨rfl, rfl⟩
  refine NP.mk (by kernel_rfl) ?_
  refine NB.mk (fun hk34 => ?_) (fun hk34 => ?_)
  · refine NRet.boolE (b := false) ?_ (NRet.mk [] rfl ⟨.refl _, rfl⟩)
    grind [formed, vecOk, all_le]
  refine NCall.call (k5) rfl rfl ?_
  refine NB.mk (fun hk35 => ?_) (fun hk35 => ?_)
  · refine NB.yes (by assumption) ?_
    refine NB.yes (by assumption) ?_
    refine NB.yes (by assumption) ?_
    refine NB.yes (by assumption) ?_
    refine NB.yes (by assumption) ?_
    refine NB.yes (by assumption) ?_
    refine NB.yes (by assumption) ?_
    refine NB.yes (by assumption) ?_
    refine NCall.call (k6) rfl rfl ?_
    refine NB.yes (by assumption) ?_
    refine NRet.boolE ?_ (NRet.mk [] rfl ⟨.refl _, rfl⟩)
    grind [formed, vecOk, all_le]
  refine NB.no (by assumption) ?_
  refine NB.no (by assumption) ?_
  refine NB.no (by assumption) ?_
  refine NB.no (by assumption) ?_
  refine NB.no (by assumption) ?_
  refine NB.no (by assumption) ?_
  refine NB.no (by assumption) ?_
  refine NB.no (by assumption) ?_
  refine NB.no (by assumption) ?_
  refine NRet.boolE (b := false) ?_ (NRet.mk [] rfl ⟨.refl _, rfl⟩)
  grind [formed, vecOk, all_le]
theorem formed13_walk (t : Txn) (ht : smTxn t) : ACalls Try.prog Nm.ref13_Formed [txnA t] [] (.bool (formed t)) [] := by
  refine ACalls_of tab (dr_snd tab mixed) Nm.ref13_Formed_h rfl (by kernel_rfl) (Nat.le_of_ble_eq_true rfl) rfl ?_
  obtain ⟨hs, h1, h2, h3⟩ := ht
  have k1 := trim7_walk t.deps (by omega)
  have k2 := equal7_walk t.deps (trim t.deps) (by omega)
  have k3 := at7_walk t.deps t.node (by omega)
  have k5 := right10_walk t.node t.seq t.effs (by omega) h3
  have k6 := effHeard10_walk t.effs t.node t.seq t.deps (by omega) h3 (by omega)
  obtain ⟨hs1, hs2⟩ := hs
  refine NP.mk (by kernel_rfl) ?_
  apply NDr.rd [0]
  · intro fH TH
    exact ⟨rfl, rfl⟩
  apply NDr.rd [0]
  · intro fH TH
    exact ⟨rfl, rfl⟩
  apply NDr.pure
  · exact NB.det
  apply NDr.pure
  · exact ⟨rfl, rfl⟩
  refine NB.mk (fun hk2 => ?_) (fun hk2 => ?_)
  · refine NB.yes (by assumption) ?_
    refine NB.yes (by assumption) ?_
    apply NDr.pure
    · refine NB.yes (by assumption) ?_
      exact ⟨rfl, rfl⟩
    apply NDr.pure
    · exact ⟨rfl, rfl⟩
    apply NDr.pure
    · exact ⟨rfl, rfl⟩
    apply NDr.pure
    · exact ⟨rfl, rfl⟩
    apply NDr.pure
    · exact ⟨rfl, rfl⟩
    apply NDr.pure
    · exact ⟨rfl, rfl⟩
    apply NDr.pure
    · exact ⟨rfl, rfl⟩
    apply NDr.pure
    · exact ⟨rfl, rfl⟩
    apply NDr.pure
    · exact ⟨rfl, rfl⟩
    apply NDr.pure
    · exact ⟨rfl, rfl⟩
    apply NDr.pure
    · exact ⟨rfl, rfl⟩
    refine NP.mk (by kernel_rfl) ?_
    refine NRet.boolE (b := false) ?_ (NRet.mk [] rfl ⟨.refl _, rfl⟩)
    grind [formed, vecOk, all_le]
  apply NDr.rd [0]
  · intro fH TH
    exact ⟨rfl, rfl⟩
  refine NB.no (by assumption) ?_
  apply NDr.rd [0]
  · intro fH TH
    exact ⟨rfl, rfl⟩
  refine NB.no (by assumption) ?_
  apply NDr.pure
  · exact NB.det
  apply NDr.pure
  · refine NB.no (by assumption) ?_
    exact ⟨rfl, rfl⟩
  apply NDr.pure
  · exact ⟨rfl, rfl⟩
  refine NB.mk (fun hk10 => ?_) (fun hk10 => ?_)
  · refine NB.yes (by assumption) ?_
    refine NB.yes (by assumption) ?_
    apply NDr.pure
    · refine NB.yes (by assumption) ?_
      exact ⟨rfl, rfl⟩
    apply NDr.pure
    · exact ⟨rfl, rfl⟩
    apply NDr.pure
    · exact ⟨rfl, rfl⟩
    apply NDr.pure
    · exact ⟨rfl, rfl⟩
    apply NDr.pure
    · exact ⟨rfl, rfl⟩
    apply NDr.pure
    · exact ⟨rfl, rfl⟩
    apply NDr.pure
    · exact ⟨rfl, rfl⟩
    apply NDr.pure
    · exact ⟨rfl, rfl⟩
    apply NDr.pure
    · exact ⟨rfl, rfl⟩
    refine NP.mk (by kernel_rfl) ?_
    refine NRet.boolE (b := false) ?_ (NRet.mk [] rfl ⟨.refl _, rfl⟩)
    grind [formed, vecOk, all_le]
  apply NDr.rd [0]
  · intro fH TH
    exact ⟨rfl, rfl⟩
  refine NB.no (by assumption) ?_
  apply NDr.rd [0]
  · intro fH TH
    exact ⟨rfl, rfl⟩
  refine NB.no (by assumption) ?_
  apply NDr.pure
  · exact NB.det
  apply NDr.pure
  · refine NB.no (by assumption) ?_
    exact ⟨rfl, rfl⟩
  apply NDr.pure
  · exact ⟨rfl, rfl⟩
  refine NB.mk (fun hk18 => ?_) (fun hk18 => ?_)
  · refine NB.yes (by assumption) ?_
    refine NB.yes (by assumption) ?_
    apply NDr.pure
    · refine NB.yes (by assumption) ?_
      exact ⟨rfl, rfl⟩
    apply NDr.pure
    · exact ⟨rfl, rfl⟩
    apply NDr.pure
    · exact ⟨rfl, rfl⟩
    apply NDr.pure
    · exact ⟨rfl, rfl⟩
    apply NDr.pure
    · exact ⟨rfl, rfl⟩
    apply NDr.pure
    · exact ⟨rfl, rfl⟩
    apply NDr.pure
    · exact ⟨rfl, rfl⟩
    refine NP.mk (by kernel_rfl) ?_
    refine NRet.boolE (b := false) ?_ (NRet.mk [] rfl ⟨.refl _, rfl⟩)
    grind [formed, vecOk, all_le]
  apply NDr.rd [0]
  · intro fH TH
    exact ⟨rfl, rfl⟩
  refine NB.no (by assumption) ?_
  apply NDr.rd [0]
  · intro fH TH
    exact ⟨rfl, rfl⟩
  refine NB.no (by assumption) ?_
  apply NDr.pure
  · exact NB.det
  apply NDr.pure
  · refine NB.no (by assumption) ?_
    exact ⟨rfl, rfl⟩
  apply NDr.pure
  · exact ⟨rfl, rfl⟩
  refine NB.mk (fun hk26 => ?_) (fun hk26 => ?_)
  · refine NB.yes (by assumption) ?_
    refine NB.yes (by assumption) ?_
    refine NB.yes (by assumption) ?_
    apply NDr.pure
    · refine NB.yes (by assumption) ?_
      exact ⟨rfl, rfl⟩
    apply NDr.pure
    · exact ⟨rfl, rfl⟩
    apply NDr.pure
    · exact ⟨rfl, rfl⟩
    apply NDr.pure
    · exact ⟨rfl, rfl⟩
    apply NDr.pure
    · exact ⟨rfl, rfl⟩
    refine NP.mk (by kernel_rfl) ?_
    refine NRet.boolE (b := false) ?_ (NRet.mk [] rfl ⟨.refl _, rfl⟩)
    grind [formed, vecOk, all_le]
  apply NDr.rd [0]
  · intro fH TH
    exact ⟨rfl, rfl⟩
  refine NB.no (by assumption) ?_
  apply NDr.rd [0]
  · intro fH TH
    exact ⟨rfl, rfl⟩
  refine NB.no (by assumption) ?_
  apply NDr.pure
  · exact ⟨rfl, rfl⟩
  refine NB.no (by assumption) ?_
  apply NDr.pure
  · exact NB.det
  apply NDr.pure
  · refine NB.no (by assumption) ?_
    exact ⟨rfl, rfl⟩
  apply NDr.pure
  · exact ⟨rfl, rfl⟩
  refine NB.mk (fun hk36 => ?_) (fun hk36 => ?_)
  · refine NB.yes (by assumption) ?_
    refine NB.yes (by assumption) ?_
    refine NB.yes (by assumption) ?_
    apply NDr.pure
    · refine NB.yes (by assumption) ?_
      exact ⟨rfl, rfl⟩
    apply NDr.pure
    · exact ⟨rfl, rfl⟩
    apply NDr.pure
    · exact ⟨rfl, rfl⟩
    refine NP.mk (by kernel_rfl) ?_
    refine NRet.boolE (b := false) ?_ (NRet.mk [] rfl ⟨.refl _, rfl⟩)
    grind [formed, vecOk, all_le]
  apply NDr.rd [0]
  · intro fH TH
    exact ⟨rfl, rfl⟩
  refine NB.no (by assumption) ?_
  apply NDr.rd [0]
  · intro fH TH
    exact ⟨rfl, rfl⟩
  refine NB.no (by assumption) ?_
  apply NDr.pure
  · exact ⟨rfl, rfl⟩
  refine NB.no (by assumption) ?_
  apply NDr.pure
  · exact NB.det
  apply NDr.pure
  · refine NB.no (by assumption) ?_
    exact ⟨rfl, rfl⟩
  apply NDr.pure
  · exact ⟨rfl, rfl⟩
  refine NB.mk (fun hk46 => ?_) (fun hk46 => ?_)
  · refine NB.yes (by assumption) ?_
    refine NB.yes (by assumption) ?_
    refine NB.yes (by assumption) ?_
    refine NB.yes (by assumption) ?_
    refine NB.yes (by assumption) ?_
    refine NB.yes (by assumption) ?_
    apply NDr.pure
    · refine NB.yes (by assumption) ?_
      exact ⟨rfl, rfl⟩
    refine NP.mk (by kernel_rfl) ?_
    refine NRet.boolE (b := false) ?_ (NRet.mk [] rfl ⟨.refl _, rfl⟩)
    grind [formed, vecOk, all_le]
  apply NDr.rd [0]
  · intro fH TH
    exact ⟨rfl, rfl⟩
  refine NB.no (by assumption) ?_
  apply NDr.rd [0]
  · intro fH TH
    exact ⟨rfl, rfl⟩
  refine NB.no (by assumption) ?_
  apply NDr.rd [0]
  · intro fH TH
    exact ⟨rfl, rfl⟩
  refine NB.no (by assumption) ?_
  apply NDr.rd [0]
  · intro fH TH
    exact ⟨rfl, rfl⟩
  refine NB.no (by assumption) ?_
  apply NDr.pure
  · refine NCall.call (k1) rfl rfl ?_
    exact ⟨rfl, rfl⟩
  refine NB.no (by assumption) ?_
  apply NDr.pure
  · refine NCall.call (k2) rfl rfl ?_
    exact ⟨rfl, rfl⟩
  refine NB.no (by assumption) ?_
  apply NDr.pure
  · exact NB.det0'
  apply NDr.pure
  · refine NB.no (by assumption) ?_
    exact ⟨rfl, rfl⟩
  refine NP.mk (by kernel_rfl) ?_
  refine NB.mk (fun hk61 => ?_) (fun hk61 => ?_)
  · refine NRet.boolE (b := false) ?_ (NRet.mk [] rfl ⟨.refl _, rfl⟩)
    grind [formed, vecOk, all_le]
  refine NLoop.mk [] [1, 3] (fun m vs H => ∃ i, i ≤ t.deps.length ∧ m = t.deps.length - i ∧ (∀ x ∈ t.deps.take i, decide (x ≤ 1073741824) = true) ∧ H = [.row .box (.agg 4) [txnA t]] ∧ vs = [.ptr 0 0 0, i64 i]) rfl ?_ ?_
  · exact Canon.mk [0] rfl ⟨t.deps.length, 0, Nat.zero_le _, rfl, by simp, rfl, rfl⟩
  · rintro m vs H ⟨i, hi, rfl, hall, rfl, rfl⟩
    by_cases hil : i < t.deps.length
    · obtain ⟨f1, f2⟩ := all_step (p := fun x => decide (x ≤ 1073741824)) hil hall
      by_cases hd : t.deps[i] ≤ 1073741824
      · refine ND.yes (by (simp only [List.length_map, List.length_append, List.length_replicate, List.length_cons, List.length_nil, List.length_take, List.length_drop]; omega)) ?_
        refine NP.mk (by omega) ?_
        refine NG.mapN (by omega) ?_
        refine ND.no (by omega) ?_
        refine NW.i64 (by omega) (by omega) ?_
        exact Canon.mk [0] rfl ⟨t.deps.length - (i + 1), by omega, i + 1, by omega, rfl, f2 (decide_eq_true hd), rfl, rfl⟩
      · have f1 := f1 (decide_eq_false hd)
        refine ND.yes (by (simp only [List.length_map, List.length_append, List.length_replicate, List.length_cons, List.length_nil, List.length_take, List.length_drop]; omega)) ?_
        refine NP.mk (by omega) ?_
        refine NG.mapN (by omega) ?_
        refine ND.yes (by omega) ?_
        refine NRet.boolE (b := false) ?_ (NRet.mk [] rfl ⟨.refl _, rfl⟩)
        grind [formed, vecOk]
    · have : i = t.deps.length := by omega
      subst this
      have f1 := all_end (p := fun x => decide (x ≤ 1073741824)) hall
      have hb : 0 ≤ vatI t.deps t.node ∧ vatI t.deps t.node ≤ 1073741824 := ⟨vatI_nonneg _ _, vatI_le (fun x hx => of_decide_eq_true (List.all_eq_true.1 f1 x hx)) (by omega) _⟩
      refine ND.no (by (simp only [List.length_map, List.length_append, List.length_replicate, List.length_cons, List.length_nil, List.length_take, List.length_drop]; omega)) ?_
      refine NP.mk (by kernel_rfl) ?_
      apply NDr.rd [0]
      · intro fH TH
        exact ⟨rfl, rfl⟩
      apply NDr.rd [0]
      · intro fH TH
        exact ⟨rfl, rfl⟩
      apply NDr.rd [0]
      · intro fH TH
        exact ⟨rfl, rfl⟩
      apply NDr.rd [0]
      · intro fH TH
        exact ⟨rfl, rfl⟩
      apply NDr.pure
      · refine NCall.call (k3) rfl rfl ?_
        exact ⟨rfl, rfl⟩
      apply NDr.pure
      · refine NW.i64 (by omega) (by omega) ?_
        exact ⟨rfl, rfl⟩
      apply NDr.rd [0]
      · intro fH TH
        exact ⟨rfl, rfl⟩
      apply NDr.rd [0]
      · intro fH TH
        exact ⟨rfl, rfl⟩
      apply NDr.pure
      · exact NB.det
      apply NDr.pure
      · exact ⟨rfl, rfl⟩
      refine NB.mk (fun hk3 => ?_) (fun hk3 => ?_)
      · apply NDr.rd [0]
        · intro fH TH
          exact ⟨rfl, rfl⟩
        refine NB.yes (by assumption) ?_
        apply NDr.rd [0]
        · intro fH TH
          exact ⟨rfl, rfl⟩
        refine NB.yes (by assumption) ?_
        apply NDr.rd [0]
        · intro fH TH
          exact ⟨rfl, rfl⟩
        refine NB.yes (by assumption) ?_
        apply NDr.rd [0]
        · intro fH TH
          exact ⟨rfl, rfl⟩
        refine NB.yes (by assumption) ?_
        apply NDr.rd [0]
        · intro fH TH
          exact ⟨rfl, rfl⟩
        refine NB.yes (by assumption) ?_
        apply NDr.rd [0]
        · intro fH TH
          exact ⟨rfl, rfl⟩
        refine NB.yes (by assumption) ?_
        apply NDr.pure
        · refine NCall.call (k5) rfl rfl ?_
          exact ⟨rfl, rfl⟩
        apply NDr.pure
        · refine NB.yes (by assumption) ?_
          exact ⟨rfl, rfl⟩
        apply NDr.pure
        · exact ⟨rfl, rfl⟩
        refine NB.mk (fun hk11 => ?_) (fun hk11 => ?_)
        · apply NDr.rd [0]
          · intro fH TH
            exact ⟨rfl, rfl⟩
          refine NB.yes (by assumption) ?_
          apply NDr.rd [0]
          · intro fH TH
            exact ⟨rfl, rfl⟩
          refine NB.yes (by assumption) ?_
          apply NDr.rd [0]
          · intro fH TH
            exact ⟨rfl, rfl⟩
          refine NB.yes (by assumption) ?_
          apply NDr.rd [0]
          · intro fH TH
            exact ⟨rfl, rfl⟩
          refine NB.yes (by assumption) ?_
          apply NDr.rd [0]
          · intro fH TH
            exact ⟨rfl, rfl⟩
          refine NB.yes (by assumption) ?_
          apply NDr.rd [0]
          · intro fH TH
            exact ⟨rfl, rfl⟩
          refine NB.yes (by assumption) ?_
          apply NDr.rd [0]
          · intro fH TH
            exact ⟨rfl, rfl⟩
          refine NB.yes (by assumption) ?_
          apply NDr.rd [0]
          · intro fH TH
            exact ⟨rfl, rfl⟩
          refine NB.yes (by assumption) ?_
          apply NDr.pure
          · refine NCall.call (k6) rfl rfl ?_
            exact ⟨rfl, rfl⟩
          apply NDr.pure
          · refine NB.yes (by assumption) ?_
            exact ⟨rfl, rfl⟩
          apply NDr.pure
          · exact ⟨rfl, rfl⟩
          refine NP.mk (by kernel_rfl) ?_
          refine NRet.boolE ?_ (NRet.mk [] rfl ⟨.refl _, rfl⟩)
          grind [formed, vecOk]
        refine NB.no (by assumption) ?_
        refine NB.no (by assumption) ?_
        refine NB.no (by assumption) ?_
        refine NB.no (by assumption) ?_
        refine NB.no (by assumption) ?_
        refine NB.no (by assumption) ?_
        refine NB.no (by assumption) ?_
        refine NB.no (by assumption) ?_
        apply NDr.pure
        · refine NB.no (by assumption) ?_
          exact ⟨rfl, rfl⟩
        apply NDr.pure
        · exact ⟨rfl, rfl⟩
        refine NP.mk (by kernel_rfl) ?_
        refine NRet.boolE (b := false) ?_ (NRet.mk [] rfl ⟨.refl _, rfl⟩)
        grind [formed, vecOk]
      refine NB.no (by assumption) ?_
      refine NB.no (by assumption) ?_
      refine NB.no (by assumption) ?_
      refine NB.no (by assumption) ?_
      refine NB.no (by assumption) ?_
      refine NB.no (by assumption) ?_
      apply NDr.pure
      · refine NB.no (by assumption) ?_
        exact ⟨rfl, rfl⟩
      apply NDr.pure
      · exact ⟨rfl, rfl⟩
      apply NDr.pure
      · exact ⟨rfl, rfl⟩
      apply NDr.pure
      · exact ⟨rfl, rfl⟩
      refine NP.mk (by kernel_rfl) ?_
      refine NRet.boolE (b := false) ?_ (NRet.mk [] rfl ⟨.refl _, rfl⟩)
      grind [formed, vecOk]
end Go.Bv
namespace Go.Bv
open Go Go.Proofs

/-- slices.Clone of bytes. -/
theorem cloneB_walk (l : List UInt8) (hl : l.length ≤ 2 ^ 46) : ACalls Try.prog Nm.slices_Clone_byte_byte [bytes l] [] (.own 0 0 l.length) [.row .vrow .leaf (l.map u8)] := by
  refine ACalls_of tab noDr_snd Nm.slices_Clone_byte_byte_h rfl (by kernel_rfl) (Nat.le_of_ble_eq_true rfl) rfl ?_
  refine NN.mk (fun h => ?_) ?_
  · have : l = [] := by simpa using h
    subst this
    exact NRet.ad [(2, .leaf)] [0] rfl ⟨.refl _, rfl⟩
  · refine NFz.own (NApp.endd rfl rfl (by simpa using hl) ?_)
    refine NRet.mk [1] rfl ⟨?_, rfl⟩
    show LeA (.own 0 0 (l.map u8).length) _
    rw [List.length_map]; exact .refl _

/-- A row of bytes, as a list. -/
theorem drop_bytes {l : List UInt8} {n : Nat} (hn : n = l.length) : Lent [.row .vrow .leaf (l.map u8)] (fun _ => True) (.own 0 0 n) (bytes l) := by
  subst hn
  exact .own trivial rfl (by simp) (by simp) (by rw [List.drop_zero, List.take_of_length_le (by simp)])

theorem lend_bytes {H : List Blk} {id : Nat} {l : List UInt8} {kk : RK} (hid : H[id]? = some (.row kk .leaf (l.map u8))) (hk : kk ≠ .box) {n : Nat} (hn : n ≤ l.length) : Lent H (fun _ => True) (.own id 0 n) (bytes (l.take n)) := by
  refine .own trivial hid hk (by simpa using hn) (by rw [List.drop_zero, List.map_take])

theorem flat_bytes {l : List UInt8} {kk : RK} (hk : kk ≠ .box) : FlatBlk (.row kk .leaf (l.map u8)) := ⟨hk, fun e he => by
  obtain ⟨x, _, rfl⟩ := List.mem_map.1 he
  rfl⟩

theorem flatB {l : List UInt8} {kk : RK} (hk : kk ≠ .box := by simp) : ∀ b ∈ [Blk.row kk .leaf (l.map u8)], FlatBlk b := fun b hb => by
  rw [List.mem_singleton] at hb; subst hb; exact flat_bytes hk

theorem cloneB_list (l : List UInt8) (hl : l.length ≤ 2 ^ 46) : ACalls Try.prog Nm.slices_Clone_byte_byte [bytes l] [] (bytes l) [] :=
  (cloneB_walk l hl).drop (.val (drop_bytes rfl) rfl (fun _ => by simp) (fun _ => by simp [bytes]))

/-- butteryref02.Same. -/
theorem sameB_walk (a b : List UInt8) (ha : a.length < 2 ^ 62) : ACalls Try.prog Nm.ref02_Same [bytes a, bytes b] [] (.bool (decide (a = b))) [] := by
  refine ACalls_of tab (dr_snd tab mixed) Nm.ref02_Same_h rfl (by kernel_rfl) (Nat.le_of_ble_eq_true rfl) rfl ?_
  refine NB.dec (fun h => ?_) (fun h => ?_)
  · have hab : a.length = b.length := by simp only [List.length_map] at h; omega
    refine NLoop.mk [] [0, 1, 5] (fun m vs H => ∃ i, i ≤ a.length ∧ m = a.length - i ∧ a.take i = b.take i ∧ H = [] ∧ vs = [bytes a, bytes b, i64 i]) rfl ?_ ?_
    · exact Canon.mk [] rfl ⟨a.length, 0, Nat.zero_le _, rfl, rfl, rfl, rfl⟩
    · rintro m vs H ⟨i, hi, rfl, ht, rfl, rfl⟩
      refine NB.dec (fun h => ?_) (fun h => ?_)
      · have hi' : i < a.length := by simpa using h
        refine NP.mk (by kernel_rfl) ?_
        refine NDr.pure _ ⟨rfl, rfl⟩ ?_
        refine NDr.pure _ ⟨rfl, rfl⟩ ?_
        refine NDr.pure _ (NP.mk (Int.natCast_nonneg _) (NG.map hi' ⟨rfl, rfl⟩)) ?_
        refine NDr.pure _ ⟨rfl, rfl⟩ ?_
        refine NDr.pure _ ⟨rfl, rfl⟩ ?_
        refine NDr.pure _ ⟨rfl, rfl⟩ ?_
        refine NDr.pure _ (NP.mk (Int.natCast_nonneg _) (NG.map (show i < b.length by omega) ⟨rfl, rfl⟩)) ?_
        refine NDr.pure _ ⟨rfl, rfl⟩ ?_
        refine NDr.pure _ NB.det' ?_
        refine NP.mk (by kernel_rfl) ?_
        refine NB.mk (fun h2 => ?_) (fun h2 => ?_)
        · have hne : a ≠ b := fun e => by subst e; simp at h2
          refine NRet.mk [] rfl ⟨?_, rfl⟩
          rw [decide_eq_false hne]; exact .refl _
        · have he : a[i] = b[i] := by
            have h2 : (!decide ((a[i].toNat : Int) = (b[i].toNat : Int))) = false := h2
            simp only [Bool.not_eq_false', decide_eq_true_eq] at h2
            apply UInt8.toNat_inj.1; omega
          refine NW.i64 (by omega) (by omega) (Canon.mk [] rfl ⟨a.length - (i + 1), by omega, i + 1, by omega, rfl, ?_, rfl, rfl⟩)
          rw [List.take_succ_eq_append_getElem hi', List.take_succ_eq_append_getElem (show i < b.length by omega), ht, he]
      · have : i = a.length := by simp only [List.length_map] at h; omega
        subst this
        rw [hab, List.take_length, ← hab, List.take_length] at ht
        refine NRet.mk [] rfl ⟨?_, rfl⟩
        rw [decide_eq_true ht]; exact .refl _
  · have hab : a ≠ b := fun e => h (by subst e; rfl)
    refine NRet.mk [] rfl ⟨?_, rfl⟩
    rw [decide_eq_false hab]; exact .refl _

/-- butteryref02.Copy. -/
theorem copyB_walk (l : List UInt8) (hl : l.length ≤ 2 ^ 46) : ACalls Try.prog Nm.ref02_Copy [bytes l] [] (.own 0 0 l.length) [.row .vrow .leaf (l.map u8)] := by
  refine ACalls_of tab noDr_snd Nm.ref02_Copy_h rfl (by kernel_rfl) (Nat.le_of_ble_eq_true rfl) rfl ?_
  refine NFz.own (NApp.endd rfl rfl (by simpa using hl) ?_)
  refine NRet.mk [1] rfl ⟨?_, rfl⟩
  show LeA (.own 0 0 (l.map u8).length) _
  rw [List.length_map]; exact .refl _

theorem sameB_self (l : List UInt8) (h : l.length < 2 ^ 62) : ACalls Try.prog Nm.ref02_Same [bytes l, bytes l] [] (.bool true) [] := by
  have := sameB_walk l l h
  rwa [decide_eq_true rfl] at this

theorem sameB_nil : ACalls Try.prog Nm.ref02_Same [.nils, bytes []] [] (.bool true) [] := (sameB_self [] (by decide)).args (.cons (.nils .leaf) (.cons (.refl _) .nil))

end Go.Bv
