/- Part of the lift: an abstract walk of the program's code, proved sound, and what it shows of this program. -/
import Derived.Test.YtjgmoglhbdgmpaaGreatPart7
import Derived.Test.YtjgmoglhbdgmpaaGreatPart5
import Derived.Sort.LotD4
namespace Go.Bv
set_option linter.unusedSimpArgs false
set_option linter.unusedVariables false
set_option maxHeartbeats 4000000
open Go Go.Proofs
theorem prefix_walk (s : List UInt8) (hs : s.length ≤ 2 ^ 47) : ACalls Tryz.prog Nm.zone_prefix [.str s] [] (.bool (pref s)) [] := by
 refine ACalls_of tab (dr_snd tab mixed) Nm.zone_prefix_h rfl (by kernel_rfl) (Nat.le_of_ble_eq_true rfl) rfl ?_
 rw [pref]
 by_cases h : s.length ≤ 16
 ·rw [decide_eq_true h, Bool.true_and]
  refine ND.no (by omega) ?_
  refine NLoop.mk [] [0, 8, 9, 10] (fun m vs H => ∃ i, i ≤ s.length ∧ m = s.length - i ∧ (∀ x ∈ s.take i, okc x = true) ∧ H = [] ∧ vs = [.str s, .str s, i64 s.length, i64 i]) rfl ?_ ?_
  ·exact Canon.mk [] rfl ⟨s.length, 0, Nat.zero_le _, rfl, by simp, rfl, rfl⟩
  ·rintro m vs H ⟨i, hi, rfl, ht, rfl, rfl⟩
   by_cases hil : i < s.length
   ·obtain ⟨f1, f2⟩ := all_step hil ht
    have fin : okc s[i] = true → ∃ m', m' < s.length - i ∧ ∃ i', i' ≤ s.length ∧ m' = s.length - i' ∧ (∀ x ∈ s.take i', okc x = true) ∧ ([] : List Blk) = [] ∧ [AV.str s, .str s, i64 s.length, i64 ((i + 1 : Nat) : Int)] = [.str s, .str s, i64 s.length, i64 i'] := fun h =>
     ⟨s.length - (i + 1), by omega, i + 1, by omega, rfl, f2 h, rfl, rfl⟩
    refine ND.yes (by omega) ?_
    refine NP.mk (by omega) ?_
    refine NB.dec (fun hk2 => ?_) (fun hk2 => ?_)
    ·refine NB.dec (fun hk3 => ?_) (fun hk3 => ?_)
     ·refine NB.dec (fun hk4 => ?_) (fun hk4 => ?_)
      ·refine NW.w ?_
       exact (Canon.mk [] rfl (fin (by grind [okc])))
      refine NRet.boolE (b := false) ?_ (NRet.mk [] rfl ⟨.refl _, rfl⟩)
      grind [okc, pref]
     refine NB.dec (fun hk5 => ?_) (fun hk5 => ?_)
     ·refine ND.no (by omega) ?_
      refine NRet.boolE (b := false) ?_ (NRet.mk [] rfl ⟨.refl _, rfl⟩)
      grind [okc, pref]
     refine NW.w ?_
     exact (Canon.mk [] rfl (fin (by grind [okc])))
    refine NB.dec (fun hk7 => ?_) (fun hk7 => ?_)
    ·refine ND.no (by omega) ?_
     refine ND.yes (by omega) ?_
     refine ND.no (by omega) ?_
     refine NRet.boolE (b := false) ?_ (NRet.mk [] rfl ⟨.refl _, rfl⟩)
     grind [okc, pref]
    refine NW.w ?_
    exact (Canon.mk [] rfl (fin (by grind [okc])))
   ·have : i = s.length := by omega
    subst this
    rw [all_end ht]
    refine ND.no (by omega) ?_
    exact NRet.mk [] rfl ⟨.refl _, rfl⟩
 ·rw [decide_eq_false h, Bool.false_and]
  refine ND.yes (by omega) ?_
  exact NRet.mk [] rfl ⟨.refl _, rfl⟩
theorem key_walk (s : List UInt8) (hs : s.length ≤ 2 ^ 47) : ACalls Tryz.prog Nm.zone_Key [.str s] [] (.bool (keyB s)) [] := by
 refine ACalls_of tab (dr_snd tab mixed) Nm.zone_Key_h rfl (by kernel_rfl) (Nat.le_of_ble_eq_true rfl) rfl ?_
 rw [keyB]
 refine NB.dec (fun hk1 => ?_) (fun hk1 => ?_)
 ·refine NRet.boolE (b := false) ?_ (NRet.mk [] rfl ⟨.refl _, rfl⟩)
  grind
 refine NCall.call (prefix_walk s hs) rfl rfl ?_
 refine NRet.boolE ?_ (NRet.mk [] rfl ⟨.refl _, rfl⟩)
 grind
theorem prefix8_walk (s : List UInt8) (hs : s.length ≤ 2 ^ 47) : ACalls Tryz.prog Nm.ref08_Prefix [.str s] [] (.bool (pref s)) [] := by
 refine ACalls_of tab (dr_snd tab mixed) Nm.ref08_Prefix_h rfl (by kernel_rfl) (Nat.le_of_ble_eq_true rfl) rfl ?_
 refine NLoop.mk [] [0, 3] (fun m vs H => ∃ i, i ≤ s.length ∧ m = s.length - i ∧ (∀ x ∈ s.take i, okc x = true) ∧ H = [] ∧ vs = [.str s, i64 i]) rfl ?_ ?_
 ·exact Canon.mk [] rfl ⟨s.length, 0, Nat.zero_le _, rfl, by simp, rfl, rfl⟩
 ·rintro m vs H ⟨i, hi, rfl, ht, rfl, rfl⟩
  by_cases hil : i < s.length
  ·obtain ⟨f1, f2⟩ := all_step hil ht
   have fin : okc s[i] = true → ∃ m', m' < s.length - i ∧ ∃ i', i' ≤ s.length ∧ m' = s.length - i' ∧ (∀ x ∈ s.take i', okc x = true) ∧ ([] : List Blk) = [] ∧ [AV.str s, i64 ((i + 1 : Nat) : Int)] = [.str s, i64 i'] := fun h =>
    ⟨s.length - (i + 1), by omega, i + 1, by omega, rfl, f2 h, rfl, rfl⟩
   refine ND.yes (by omega) ?_
   refine NP.mk (by omega) ?_
   refine NB.dec (fun hk2 => ?_) (fun hk2 => ?_)
   ·refine NW.w ?_
    exact (Canon.mk [] rfl (fin (by grind [okc])))
   refine NB.dec (fun hk3 => ?_) (fun hk3 => ?_)
   ·refine NB.dec (fun hk4 => ?_) (fun hk4 => ?_)
    ·refine NW.w ?_
     exact (Canon.mk [] rfl (fin (by grind [okc])))
    refine NB.dec (fun hk5 => ?_) (fun hk5 => ?_)
    ·refine NB.dec (fun hk6 => ?_) (fun hk6 => ?_)
     ·refine NW.w ?_
      exact (Canon.mk [] rfl (fin (by grind [okc])))
     refine NRet.boolE (b := false) ?_ (NRet.mk [] rfl ⟨.refl _, rfl⟩)
     grind [okc, pref]
    refine NRet.boolE (b := false) ?_ (NRet.mk [] rfl ⟨.refl _, rfl⟩)
    grind [okc, pref]
   refine ND.no (by omega) ?_
   refine NRet.boolE (b := false) ?_ (NRet.mk [] rfl ⟨.refl _, rfl⟩)
   grind [okc, pref]
  ·have : i = s.length := by omega
   subst this
   rw [pref]
   rw [all_end ht]
   refine ND.no (by omega) ?_
   refine NB.dec (fun hk2 => ?_) (fun hk2 => ?_)
   ·refine NRet.boolE (b := true) ?_ (NRet.mk [] rfl ⟨.refl _, rfl⟩)
    grind
   refine NRet.boolE (b := false) ?_ (NRet.mk [] rfl ⟨.refl _, rfl⟩)
   grind
theorem key8_walk (s : List UInt8) (hs : s.length ≤ 2 ^ 47) : ACalls Tryz.prog Nm.ref08_Key [.str s] [] (.bool (keyB s)) [] := by
 refine ACalls_of tab (dr_snd tab mixed) Nm.ref08_Key_h rfl (by kernel_rfl) (Nat.le_of_ble_eq_true rfl) rfl ?_
 rw [keyB]
 by_cases h : s = []
 ·subst h
  refine ND.no (by (simp only [zLm, zLa, zLr, zLc, zLn, zLt, zLd]; omega)) ?_
  exact NRet.mk [] rfl ⟨.refl _, rfl⟩
 ·have := List.length_pos_iff.2 h
  rw [decide_eq_true h, Bool.true_and]
  refine ND.yes (by omega) ?_
  refine NCall.call (prefix8_walk s hs) rfl rfl ?_
  exact NRet.mk [] rfl ⟨.refl _, rfl⟩
def smItem (x : Item) : Prop := x.key.length ≤ 2 ^ 40 ∧ x.field.length ≤ 2 ^ 40 ∧ x.elem.length ≤ 2 ^ 40
theorem itemFormed_walk (x : Item) (hx : smItem x) : ACalls Tryz.prog Nm.item_Formed [itemA x] [] (.bool (itemOk x)) [] := by
 refine ACalls_of tab (dr_snd tab mixed) Nm.item_Formed_h rfl (by kernel_rfl) (Nat.le_of_ble_eq_true rfl) rfl ?_
 obtain ⟨h1, h2, h3⟩ := hx
 have k1 := key_walk x.key (by omega)
 have k2 := key_walk x.field (by omega)
 refine NCall.call (k1) rfl rfl ?_
 refine NB.mk (fun hk1 => ?_) (fun hk1 => ?_)
 ·refine NB.dec (fun hk2 => ?_) (fun hk2 => ?_)
  ·refine NB.dec (fun hk3 => ?_) (fun hk3 => ?_)
   ·refine NRet.boolE (b := false) ?_ (NRet.mk [] rfl ⟨.refl _, rfl⟩)
    grind [itemOk, kindOk, dotOk, keyB, pref]
   refine NB.dec (fun hk4 => ?_) (fun hk4 => ?_)
   ·refine NB.dec (fun hk5 => ?_) (fun hk5 => ?_)
    ·refine NB.dec (fun hk6 => ?_) (fun hk6 => ?_)
     ·refine NB.dec (fun hk7 => ?_) (fun hk7 => ?_)
      ·refine NB.dec (fun hk8 => ?_) (fun hk8 => ?_)
       ·refine NB.dec (fun hk9 => ?_) (fun hk9 => ?_)
        ·refine NB.dec (fun hk10 => ?_) (fun hk10 => ?_)
         ·refine NB.dec (fun hk11 => ?_) (fun hk11 => ?_)
          ·refine NRet.boolE (b := true) ?_ (NRet.mk [] rfl ⟨.refl _, rfl⟩)
           grind [itemOk, kindOk, dotOk, keyB, pref]
          refine NRet.boolE (b := false) ?_ (NRet.mk [] rfl ⟨.refl _, rfl⟩)
          grind [itemOk, kindOk, dotOk, keyB, pref]
         refine NRet.boolE (b := false) ?_ (NRet.mk [] rfl ⟨.refl _, rfl⟩)
         grind [itemOk, kindOk, dotOk, keyB, pref]
        refine NRet.boolE (b := false) ?_ (NRet.mk [] rfl ⟨.refl _, rfl⟩)
        grind [itemOk, kindOk, dotOk, keyB, pref]
       refine NRet.boolE (b := false) ?_ (NRet.mk [] rfl ⟨.refl _, rfl⟩)
       grind [itemOk, kindOk, dotOk, keyB, pref]
      refine NRet.boolE (b := false) ?_ (NRet.mk [] rfl ⟨.refl _, rfl⟩)
      grind [itemOk, kindOk, dotOk, keyB, pref]
     refine NRet.boolE (b := false) ?_ (NRet.mk [] rfl ⟨.refl _, rfl⟩)
     grind [itemOk, kindOk, dotOk, keyB, pref]
    refine NRet.boolE (b := false) ?_ (NRet.mk [] rfl ⟨.refl _, rfl⟩)
    grind [itemOk, kindOk, dotOk, keyB, pref]
   refine NB.dec (fun hk12 => ?_) (fun hk12 => ?_)
   ·refine NB.dec (fun hk13 => ?_) (fun hk13 => ?_)
    ·refine NB.dec (fun hk14 => ?_) (fun hk14 => ?_)
     ·refine NB.dec (fun hk15 => ?_) (fun hk15 => ?_)
      ·refine NB.dec (fun hk16 => ?_) (fun hk16 => ?_)
       ·refine NB.dec (fun hk17 => ?_) (fun hk17 => ?_)
        ·refine NB.dec (fun hk18 => ?_) (fun hk18 => ?_)
         ·refine NB.dec (fun hk19 => ?_) (fun hk19 => ?_)
          ·refine NRet.boolE (b := true) ?_ (NRet.mk [] rfl ⟨.refl _, rfl⟩)
           grind [itemOk, kindOk, dotOk, keyB, pref]
          refine NRet.boolE (b := false) ?_ (NRet.mk [] rfl ⟨.refl _, rfl⟩)
          grind [itemOk, kindOk, dotOk, keyB, pref]
         refine NRet.boolE (b := false) ?_ (NRet.mk [] rfl ⟨.refl _, rfl⟩)
         grind [itemOk, kindOk, dotOk, keyB, pref]
        refine NRet.boolE (b := false) ?_ (NRet.mk [] rfl ⟨.refl _, rfl⟩)
        grind [itemOk, kindOk, dotOk, keyB, pref]
       refine NRet.boolE (b := false) ?_ (NRet.mk [] rfl ⟨.refl _, rfl⟩)
       grind [itemOk, kindOk, dotOk, keyB, pref]
      refine NRet.boolE (b := false) ?_ (NRet.mk [] rfl ⟨.refl _, rfl⟩)
      grind [itemOk, kindOk, dotOk, keyB, pref]
     refine NRet.boolE (b := false) ?_ (NRet.mk [] rfl ⟨.refl _, rfl⟩)
     grind [itemOk, kindOk, dotOk, keyB, pref]
    refine NRet.boolE (b := false) ?_ (NRet.mk [] rfl ⟨.refl _, rfl⟩)
    grind [itemOk, kindOk, dotOk, keyB, pref]
   refine NB.dec (fun hk20 => ?_) (fun hk20 => ?_)
   ·refine NB.dec (fun hk21 => ?_) (fun hk21 => ?_)
    ·refine NB.dec (fun hk22 => ?_) (fun hk22 => ?_)
     ·refine NB.dec (fun hk23 => ?_) (fun hk23 => ?_)
      ·refine NB.dec (fun hk24 => ?_) (fun hk24 => ?_)
       ·refine NB.dec (fun hk25 => ?_) (fun hk25 => ?_)
        ·refine NB.dec (fun hk26 => ?_) (fun hk26 => ?_)
         ·refine NB.dec (fun hk27 => ?_) (fun hk27 => ?_)
          ·refine NRet.boolE (b := true) ?_ (NRet.mk [] rfl ⟨.refl _, rfl⟩)
           grind [itemOk, kindOk, dotOk, keyB, pref]
          refine NRet.boolE (b := false) ?_ (NRet.mk [] rfl ⟨.refl _, rfl⟩)
          grind [itemOk, kindOk, dotOk, keyB, pref]
         refine NRet.boolE (b := false) ?_ (NRet.mk [] rfl ⟨.refl _, rfl⟩)
         grind [itemOk, kindOk, dotOk, keyB, pref]
        refine NRet.boolE (b := false) ?_ (NRet.mk [] rfl ⟨.refl _, rfl⟩)
        grind [itemOk, kindOk, dotOk, keyB, pref]
       refine NRet.boolE (b := false) ?_ (NRet.mk [] rfl ⟨.refl _, rfl⟩)
       grind [itemOk, kindOk, dotOk, keyB, pref]
      refine NRet.boolE (b := false) ?_ (NRet.mk [] rfl ⟨.refl _, rfl⟩)
      grind [itemOk, kindOk, dotOk, keyB, pref]
     refine NRet.boolE (b := false) ?_ (NRet.mk [] rfl ⟨.refl _, rfl⟩)
     grind [itemOk, kindOk, dotOk, keyB, pref]
    refine NRet.boolE (b := false) ?_ (NRet.mk [] rfl ⟨.refl _, rfl⟩)
    grind [itemOk, kindOk, dotOk, keyB, pref]
   refine NRet.boolE (b := false) ?_ (NRet.mk [] rfl ⟨.refl _, rfl⟩)
   grind [itemOk, kindOk, dotOk, keyB, pref]
  refine NCall.call (k2) rfl rfl ?_
  refine NB.mk (fun hk28 => ?_) (fun hk28 => ?_)
  ·refine NB.dec (fun hk29 => ?_) (fun hk29 => ?_)
   ·refine NRet.boolE (b := false) ?_ (NRet.mk [] rfl ⟨.refl _, rfl⟩)
    grind [itemOk, kindOk, dotOk, keyB, pref]
   refine NB.dec (fun hk30 => ?_) (fun hk30 => ?_)
   ·refine NB.dec (fun hk31 => ?_) (fun hk31 => ?_)
    ·refine NB.dec (fun hk32 => ?_) (fun hk32 => ?_)
     ·refine NB.dec (fun hk33 => ?_) (fun hk33 => ?_)
      ·refine NB.dec (fun hk34 => ?_) (fun hk34 => ?_)
       ·refine NB.dec (fun hk35 => ?_) (fun hk35 => ?_)
        ·refine NB.dec (fun hk36 => ?_) (fun hk36 => ?_)
         ·refine NB.dec (fun hk37 => ?_) (fun hk37 => ?_)
          ·refine NRet.boolE (b := true) ?_ (NRet.mk [] rfl ⟨.refl _, rfl⟩)
           grind [itemOk, kindOk, dotOk, keyB, pref]
          refine NRet.boolE (b := false) ?_ (NRet.mk [] rfl ⟨.refl _, rfl⟩)
          grind [itemOk, kindOk, dotOk, keyB, pref]
         refine NRet.boolE (b := false) ?_ (NRet.mk [] rfl ⟨.refl _, rfl⟩)
         grind [itemOk, kindOk, dotOk, keyB, pref]
        refine NRet.boolE (b := false) ?_ (NRet.mk [] rfl ⟨.refl _, rfl⟩)
        grind [itemOk, kindOk, dotOk, keyB, pref]
       refine NRet.boolE (b := false) ?_ (NRet.mk [] rfl ⟨.refl _, rfl⟩)
       grind [itemOk, kindOk, dotOk, keyB, pref]
      refine NRet.boolE (b := false) ?_ (NRet.mk [] rfl ⟨.refl _, rfl⟩)
      grind [itemOk, kindOk, dotOk, keyB, pref]
     refine NRet.boolE (b := false) ?_ (NRet.mk [] rfl ⟨.refl _, rfl⟩)
     grind [itemOk, kindOk, dotOk, keyB, pref]
    refine NRet.boolE (b := false) ?_ (NRet.mk [] rfl ⟨.refl _, rfl⟩)
    grind [itemOk, kindOk, dotOk, keyB, pref]
   refine NB.dec (fun hk38 => ?_) (fun hk38 => ?_)
   ·refine NB.dec (fun hk39 => ?_) (fun hk39 => ?_)
    ·refine NB.dec (fun hk40 => ?_) (fun hk40 => ?_)
     ·refine NB.dec (fun hk41 => ?_) (fun hk41 => ?_)
      ·refine NB.dec (fun hk42 => ?_) (fun hk42 => ?_)
       ·refine NB.dec (fun hk43 => ?_) (fun hk43 => ?_)
        ·refine NB.dec (fun hk44 => ?_) (fun hk44 => ?_)
         ·refine NB.dec (fun hk45 => ?_) (fun hk45 => ?_)
          ·refine NRet.boolE (b := true) ?_ (NRet.mk [] rfl ⟨.refl _, rfl⟩)
           grind [itemOk, kindOk, dotOk, keyB, pref]
          refine NRet.boolE (b := false) ?_ (NRet.mk [] rfl ⟨.refl _, rfl⟩)
          grind [itemOk, kindOk, dotOk, keyB, pref]
         refine NRet.boolE (b := false) ?_ (NRet.mk [] rfl ⟨.refl _, rfl⟩)
         grind [itemOk, kindOk, dotOk, keyB, pref]
        refine NRet.boolE (b := false) ?_ (NRet.mk [] rfl ⟨.refl _, rfl⟩)
        grind [itemOk, kindOk, dotOk, keyB, pref]
       refine NRet.boolE (b := false) ?_ (NRet.mk [] rfl ⟨.refl _, rfl⟩)
       grind [itemOk, kindOk, dotOk, keyB, pref]
      refine NRet.boolE (b := false) ?_ (NRet.mk [] rfl ⟨.refl _, rfl⟩)
      grind [itemOk, kindOk, dotOk, keyB, pref]
     refine NRet.boolE (b := false) ?_ (NRet.mk [] rfl ⟨.refl _, rfl⟩)
     grind [itemOk, kindOk, dotOk, keyB, pref]
    refine NRet.boolE (b := false) ?_ (NRet.mk [] rfl ⟨.refl _, rfl⟩)
    grind [itemOk, kindOk, dotOk, keyB, pref]
   refine NB.dec (fun hk46 => ?_) (fun hk46 => ?_)
   ·refine NB.dec (fun hk47 => ?_) (fun hk47 => ?_)
    ·refine NB.dec (fun hk48 => ?_) (fun hk48 => ?_)
     ·refine NB.dec (fun hk49 => ?_) (fun hk49 => ?_)
      ·refine NB.dec (fun hk50 => ?_) (fun hk50 => ?_)
       ·refine NB.dec (fun hk51 => ?_) (fun hk51 => ?_)
        ·refine NB.dec (fun hk52 => ?_) (fun hk52 => ?_)
         ·refine NB.dec (fun hk53 => ?_) (fun hk53 => ?_)
          ·refine NRet.boolE (b := true) ?_ (NRet.mk [] rfl ⟨.refl _, rfl⟩)
           grind [itemOk, kindOk, dotOk, keyB, pref]
          refine NRet.boolE (b := false) ?_ (NRet.mk [] rfl ⟨.refl _, rfl⟩)
          grind [itemOk, kindOk, dotOk, keyB, pref]
         refine NRet.boolE (b := false) ?_ (NRet.mk [] rfl ⟨.refl _, rfl⟩)
         grind [itemOk, kindOk, dotOk, keyB, pref]
        refine NRet.boolE (b := false) ?_ (NRet.mk [] rfl ⟨.refl _, rfl⟩)
        grind [itemOk, kindOk, dotOk, keyB, pref]
       refine NRet.boolE (b := false) ?_ (NRet.mk [] rfl ⟨.refl _, rfl⟩)
       grind [itemOk, kindOk, dotOk, keyB, pref]
      refine NRet.boolE (b := false) ?_ (NRet.mk [] rfl ⟨.refl _, rfl⟩)
      grind [itemOk, kindOk, dotOk, keyB, pref]
     refine NRet.boolE (b := false) ?_ (NRet.mk [] rfl ⟨.refl _, rfl⟩)
     grind [itemOk, kindOk, dotOk, keyB, pref]
    refine NRet.boolE (b := false) ?_ (NRet.mk [] rfl ⟨.refl _, rfl⟩)
    grind [itemOk, kindOk, dotOk, keyB, pref]
   refine NRet.boolE (b := false) ?_ (NRet.mk [] rfl ⟨.refl _, rfl⟩)
   grind [itemOk, kindOk, dotOk, keyB, pref]
  refine NRet.boolE (b := false) ?_ (NRet.mk [] rfl ⟨.refl _, rfl⟩)
  grind [itemOk, kindOk, dotOk, keyB, pref]
 refine NRet.boolE (b := false) ?_ (NRet.mk [] rfl ⟨.refl _, rfl⟩)
 grind [itemOk, kindOk, dotOk, keyB, pref]
theorem item9_walk (x : Item) (hx : smItem x) : ACalls Tryz.prog Nm.ref09_Formed [itemA x] [] (.bool (itemOk x)) [] := by
 refine ACalls_of tab (dr_snd tab mixed) Nm.ref09_Formed_h rfl (by kernel_rfl) (Nat.le_of_ble_eq_true rfl) rfl ?_
 obtain ⟨h1, h2, h3⟩ := hx
 have k1 := key8_walk x.key (by omega)
 have k2 := prefix8_walk x.field (by omega)
 refine NB.dec (fun hk1 => ?_) (fun hk1 => ?_)
 ·refine NRet.boolE (b := false) ?_ (NRet.mk [] rfl ⟨.refl _, rfl⟩)
  grind [itemOk, kindOk, dotOk, keyB, pref]
 refine NB.dec (fun hk2 => ?_) (fun hk2 => ?_)
 ·refine NRet.boolE (b := false) ?_ (NRet.mk [] rfl ⟨.refl _, rfl⟩)
  grind [itemOk, kindOk, dotOk, keyB, pref]
 refine NB.dec (fun hk3 => ?_) (fun hk3 => ?_)
 ·refine NRet.boolE (b := false) ?_ (NRet.mk [] rfl ⟨.refl _, rfl⟩)
  grind [itemOk, kindOk, dotOk, keyB, pref]
 refine NB.dec (fun hk4 => ?_) (fun hk4 => ?_)
 ·refine NRet.boolE (b := false) ?_ (NRet.mk [] rfl ⟨.refl _, rfl⟩)
  grind [itemOk, kindOk, dotOk, keyB, pref]
 refine NB.dec (fun hk5 => ?_) (fun hk5 => ?_)
 ·refine NRet.boolE (b := false) ?_ (NRet.mk [] rfl ⟨.refl _, rfl⟩)
  grind [itemOk, kindOk, dotOk, keyB, pref]
 refine NB.dec (fun hk6 => ?_) (fun hk6 => ?_)
 ·refine NRet.boolE (b := false) ?_ (NRet.mk [] rfl ⟨.refl _, rfl⟩)
  grind [itemOk, kindOk, dotOk, keyB, pref]
 refine NCall.call (k1) rfl rfl ?_
 refine NB.mk (fun hk7 => ?_) (fun hk7 => ?_)
 ·refine NCall.call (k2) rfl rfl ?_
  refine NB.mk (fun hk8 => ?_) (fun hk8 => ?_)
  ·refine NB.dec (fun hk9 => ?_) (fun hk9 => ?_)
   ·refine NRet.boolE (b := false) ?_ (NRet.mk [] rfl ⟨.refl _, rfl⟩)
    grind [itemOk, kindOk, dotOk, keyB, pref]
   refine NB.dec (fun hk10 => ?_) (fun hk10 => ?_)
   ·refine NB.dec (fun hk11 => ?_) (fun hk11 => ?_)
    ·refine NRet.boolE (b := true) ?_ (NRet.mk [] rfl ⟨.refl _, rfl⟩)
     grind [itemOk, kindOk, dotOk, keyB, pref]
    refine ND.no (by omega) ?_
    refine NRet.boolE (b := false) ?_ (NRet.mk [] rfl ⟨.refl _, rfl⟩)
    grind [itemOk, kindOk, dotOk, keyB, pref]
   refine NB.dec (fun hk13 => ?_) (fun hk13 => ?_)
   ·refine NB.dec (fun hk14 => ?_) (fun hk14 => ?_)
    ·refine NRet.boolE (b := true) ?_ (NRet.mk [] rfl ⟨.refl _, rfl⟩)
     grind [itemOk, kindOk, dotOk, keyB, pref]
    refine ND.no (by omega) ?_
    refine NRet.boolE (b := false) ?_ (NRet.mk [] rfl ⟨.refl _, rfl⟩)
    grind [itemOk, kindOk, dotOk, keyB, pref]
   refine NB.dec (fun hk16 => ?_) (fun hk16 => ?_)
   ·refine NB.dec (fun hk17 => ?_) (fun hk17 => ?_)
    ·refine NRet.boolE (b := true) ?_ (NRet.mk [] rfl ⟨.refl _, rfl⟩)
     grind (splits := 20) [itemOk, kindOk, dotOk, keyB, pref, List.length_eq_zero_iff]
    refine NRet.boolE (b := false) ?_ (NRet.mk [] rfl ⟨.refl _, rfl⟩)
    grind [itemOk, kindOk, dotOk, keyB, pref]
   refine NRet.boolE (b := false) ?_ (NRet.mk [] rfl ⟨.refl _, rfl⟩)
   grind [itemOk, kindOk, dotOk, keyB, pref]
  refine NRet.boolE (b := false) ?_ (NRet.mk [] rfl ⟨.refl _, rfl⟩)
  grind [itemOk, kindOk, dotOk, keyB, pref]
 refine NRet.boolE (b := false) ?_ (NRet.mk [] rfl ⟨.refl _, rfl⟩)
 grind [itemOk, kindOk, dotOk, keyB, pref]
theorem dot_walk' (d : Dot) : ACalls Tryz.prog Nm.eff_dot [dotA d] [] (.bool (dotOk d)) [] := by
 refine ACalls_of tab (dr_snd tab mixed) Nm.eff_dot_h rfl (by kernel_rfl) (Nat.le_of_ble_eq_true rfl) rfl ?_
 rw [dotOk]
 refine NB.dec (fun hk1 => ?_) (fun hk1 => ?_)
 ·refine NB.dec (fun hk2 => ?_) (fun hk2 => ?_)
  ·refine NB.dec (fun hk3 => ?_) (fun hk3 => ?_)
   ·refine NB.dec (fun hk4 => ?_) (fun hk4 => ?_)
    ·refine NB.dec (fun hk5 => ?_) (fun hk5 => ?_)
     ·refine NB.dec (fun hk6 => ?_) (fun hk6 => ?_)
      ·refine NRet.boolE (b := true) ?_ (NRet.mk [] rfl ⟨.refl _, rfl⟩)
       (simp only [decide_eq_true_eq, decide_eq_false_iff_not, eq_comm (a := true), eq_comm (a := false)]; omega)
      refine NRet.boolE (b := false) ?_ (NRet.mk [] rfl ⟨.refl _, rfl⟩)
      (simp only [decide_eq_true_eq, decide_eq_false_iff_not, eq_comm (a := true), eq_comm (a := false)]; omega)
     refine NRet.boolE (b := false) ?_ (NRet.mk [] rfl ⟨.refl _, rfl⟩)
     (simp only [decide_eq_true_eq, decide_eq_false_iff_not, eq_comm (a := true), eq_comm (a := false)]; omega)
    refine NRet.boolE (b := false) ?_ (NRet.mk [] rfl ⟨.refl _, rfl⟩)
    (simp only [decide_eq_true_eq, decide_eq_false_iff_not, eq_comm (a := true), eq_comm (a := false)]; omega)
   refine NRet.boolE (b := false) ?_ (NRet.mk [] rfl ⟨.refl _, rfl⟩)
   (simp only [decide_eq_true_eq, decide_eq_false_iff_not, eq_comm (a := true), eq_comm (a := false)]; omega)
  refine NRet.boolE (b := false) ?_ (NRet.mk [] rfl ⟨.refl _, rfl⟩)
  (simp only [decide_eq_true_eq, decide_eq_false_iff_not, eq_comm (a := true), eq_comm (a := false)]; omega)
 refine NRet.boolE (b := false) ?_ (NRet.mk [] rfl ⟨.refl _, rfl⟩)
 (simp only [decide_eq_true_eq, decide_eq_false_iff_not, eq_comm (a := true), eq_comm (a := false)]; omega)
theorem may10_walk (d : Dot) : ACalls Tryz.prog Nm.ref10_may [dotA d] [] (.bool (dotOk d)) [] := by
 refine ACalls_of tab (dr_snd tab mixed) Nm.ref10_may_h rfl (by kernel_rfl) (Nat.le_of_ble_eq_true rfl) rfl ?_
 have e : itemOk ⟨[97], [], 1, [], 0, d⟩ = dotOk d := by simp [itemOk, keyB, pref, okc, kindOk]
 have h := item9_walk ⟨[97], [], 1, [], 0, d⟩ ⟨by simp, by simp, by simp⟩
 rw [e] at h
 refine NCall.call (h) rfl rfl ?_
 exact NRet.mk [] rfl ⟨.refl _, rfl⟩
theorem ahead10_walk (a b : Dot) : ACalls Tryz.prog Nm.ref10_Ahead [dotA a, dotA b] [] (.bool (dlt a b)) [] := by
 refine ACalls_of tab (dr_snd tab mixed) Nm.ref10_Ahead_h rfl (by kernel_rfl) (Nat.le_of_ble_eq_true rfl) rfl ?_
 rw [dlt]
 refine NB.dec (fun hk1 => ?_) (fun hk1 => ?_)
 ·refine NB.dec (fun hk2 => ?_) (fun hk2 => ?_)
  ·refine NB.dec (fun hk3 => ?_) (fun hk3 => ?_)
   ·refine NRet.boolE (b := true) ?_ (NRet.mk [] rfl ⟨.refl _, rfl⟩)
    (simp only [decide_eq_true_eq, decide_eq_false_iff_not, eq_comm (a := true), eq_comm (a := false)]; omega)
   refine NRet.boolE (b := false) ?_ (NRet.mk [] rfl ⟨.refl _, rfl⟩)
   (simp only [decide_eq_true_eq, decide_eq_false_iff_not, eq_comm (a := true), eq_comm (a := false)]; omega)
  refine NB.dec (fun hk4 => ?_) (fun hk4 => ?_)
  ·refine NRet.boolE (b := true) ?_ (NRet.mk [] rfl ⟨.refl _, rfl⟩)
   (simp only [decide_eq_true_eq, decide_eq_false_iff_not, eq_comm (a := true), eq_comm (a := false)]; omega)
  refine NRet.boolE (b := false) ?_ (NRet.mk [] rfl ⟨.refl _, rfl⟩)
  (simp only [decide_eq_true_eq, decide_eq_false_iff_not, eq_comm (a := true), eq_comm (a := false)]; omega)
 refine NB.dec (fun hk5 => ?_) (fun hk5 => ?_)
 ·refine NRet.boolE (b := true) ?_ (NRet.mk [] rfl ⟨.refl _, rfl⟩)
  (simp only [decide_eq_true_eq, decide_eq_false_iff_not, eq_comm (a := true), eq_comm (a := false)]; omega)
 refine NRet.boolE (b := false) ?_ (NRet.mk [] rfl ⟨.refl _, rfl⟩)
 (simp only [decide_eq_true_eq, decide_eq_false_iff_not, eq_comm (a := true), eq_comm (a := false)]; omega)
theorem made10_walk (node seq : Int) (e : Eff) : ACalls Tryz.prog Nm.ref10_Made [i64 node, i64 seq, effA e] [] (itemA (made node seq e)) [] := by
 refine ACalls_of tab (dr_snd tab mixed) Nm.ref10_Made_h rfl (by kernel_rfl) (Nat.le_of_ble_eq_true rfl) rfl ?_
 exact NRet.mk [] rfl ⟨.refl _, rfl⟩
theorem isNaN_walk (a : Int) : ACalls Tryz.prog Nm.cmp_isNaN_int [i64 a] [] (.bool false) [] := by
 refine ACalls_of tab (dr_snd tab mixed) Nm.cmp_isNaN_int_h rfl (by kernel_rfl) (Nat.le_of_ble_eq_true rfl) rfl ?_
 refine ND.yes (by omega) ?_
 exact NRet.mk [] rfl ⟨.refl _, rfl⟩
def cmpI (a b : Int) : Int := if a < b then -1 else if b < a then 1 else 0
theorem compare_walk (a b : Int) : ACalls Tryz.prog Nm.cmp_Compare_int [i64 a, i64 b] [] (i64 (cmpI a b)) [] := by
 refine ACalls_of tab (dr_snd tab mixed) Nm.cmp_Compare_int_h rfl (by kernel_rfl) (Nat.le_of_ble_eq_true rfl) rfl ?_
 have h1 := isNaN_walk a
 have h2 := isNaN_walk b
 rw [cmpI]
 refine NCall.call (h1) rfl rfl ?_
 refine NCall.call (h2) rfl rfl ?_
 refine NB.dec (fun hk1 => ?_) (fun hk1 => ?_)
 ·refine NRet.intE ?_ (NRet.mk [] rfl ⟨.refl _, rfl⟩)
  omega
 refine NB.dec (fun hk2 => ?_) (fun hk2 => ?_)
 ·refine NRet.intE ?_ (NRet.mk [] rfl ⟨.refl _, rfl⟩)
  omega
 refine NRet.intE ?_ (NRet.mk [] rfl ⟨.refl _, rfl⟩)
 omega
theorem made_walk (node seq : Int) (e : Eff) : ACalls Tryz.prog Nm.eff_made [i64 node, i64 seq, effA e] [] (itemA (made node seq e)) [] := by
 refine ACalls_of tab (dr_snd tab mixed) Nm.eff_made_h rfl (by kernel_rfl) (Nat.le_of_ble_eq_true rfl) rfl ?_
 exact NRet.mk [] rfl ⟨.refl _, rfl⟩
def orI : List Int → Int
 | [] => 0
 | x :: r => if x = 0 then orI r else x
theorem orI_cons (x : Int) (r : List Int) : orI (x :: r) = if x = 0 then orI r else x := rfl
theorem or_walk (l : List Int) (hl : l.length ≤ 2 ^ 40) : ACalls Tryz.prog Nm.cmp_Or_int [ints l] [] (i64 (orI l)) [] := by
 refine ACalls_of tab (dr_snd tab mixed) Nm.cmp_Or_int_h rfl (by kernel_rfl) (Nat.le_of_ble_eq_true rfl) rfl ?_
 refine NLoop.mk [] [3, 6, 7, 8] (fun m vs H => ∃ i, i ≤ l.length ∧ m = l.length - i ∧ orI l = orI (l.drop i) ∧ H = [] ∧ vs = [i64 0, ints l, i64 l.length, i64 i]) rfl ?_ ?_
 ·exact Canon.mk [] rfl ⟨l.length, 0, Nat.zero_le _, rfl, rfl, rfl, by simp [ints, i64]⟩
 ·rintro m vs H ⟨i, hi, rfl, ht, rfl, rfl⟩
  rw [ht]
  by_cases hil : i < l.length
  ·rw [List.drop_eq_getElem_cons hil]
   rw [orI_cons]
   by_cases h0 : l[i] = 0
   ·rw [if_pos h0]
    refine ND.yes (by omega) ?_
    refine NP.mk (by omega) ?_
    refine NG.mapN (by omega) ?_
    refine ND.yes (by omega) ?_
    refine NW.w ?_
    exact Canon.mk [] rfl ⟨l.length - (i + 1), by omega, i + 1, by omega, rfl, rfl, rfl, rfl⟩
   ·rw [if_neg h0]
    refine ND.yes (by omega) ?_
    refine NP.mk (by omega) ?_
    refine NG.mapN (by omega) ?_
    refine ND.no (by omega) ?_
    exact NRet.mk [] rfl ⟨.refl _, rfl⟩
  ·rw [List.drop_eq_nil_of_le (by omega)]
   refine ND.no (by omega) ?_
   exact NRet.mk [] rfl ⟨.refl _, rfl⟩
theorem order_walk (a b : Dot) : ACalls Tryz.prog Nm.eff_order [dotA a, dotA b] [] (i64 (orI [cmpI a.node b.node, cmpI a.seq b.seq, cmpI a.at' b.at'])) [] := by
 refine ACalls_of tab (dr_snd tab mixed) Nm.eff_order_h rfl (by kernel_rfl) (Nat.le_of_ble_eq_true rfl) rfl ?_
 refine NP.mk (by kernel_rfl) ?_
 apply NDr.rd [0]
 ·intro fH TH
  exact ⟨rfl, rfl⟩
 apply NDr.rd [0]
 ·intro fH TH
  exact ⟨rfl, rfl⟩
 apply NDr.rd [1]
 ·intro fH TH
  exact ⟨rfl, rfl⟩
 apply NDr.rd [1]
 ·intro fH TH
  exact ⟨rfl, rfl⟩
 apply NDr.pure
 ·refine NCall.call (compare_walk a.node b.node) rfl rfl ?_
  exact ⟨rfl, rfl⟩
 apply NDr.rd [0]
 ·intro fH TH
  exact ⟨rfl, rfl⟩
 apply NDr.rd [0]
 ·intro fH TH
  exact ⟨rfl, rfl⟩
 apply NDr.rd [1]
 ·intro fH TH
  exact ⟨rfl, rfl⟩
 apply NDr.rd [1]
 ·intro fH TH
  exact ⟨rfl, rfl⟩
 apply NDr.pure
 ·refine NCall.call (compare_walk a.seq b.seq) rfl rfl ?_
  exact ⟨rfl, rfl⟩
 apply NDr.rd [0]
 ·intro fH TH
  exact ⟨rfl, rfl⟩
 apply NDr.rd [0]
 ·intro fH TH
  exact ⟨rfl, rfl⟩
 apply NDr.rd [1]
 ·intro fH TH
  exact ⟨rfl, rfl⟩
 apply NDr.rd [1]
 ·intro fH TH
  exact ⟨rfl, rfl⟩
 apply NDr.pure
 ·refine NCall.call (compare_walk a.at' b.at') rfl rfl ?_
  exact ⟨rfl, rfl⟩
 refine NDr.w _ ?_
 apply NDr.pure
 ·refine NCall.call (or_walk [cmpI a.node b.node, cmpI a.seq b.seq, cmpI a.at' b.at'] (by simp)) rfl rfl ?_
  exact ⟨rfl, rfl⟩
 refine NDr.w _ ?_
 refine NP.mk (by kernel_rfl) ?_
 exact NRet.mk [] rfl ⟨.refl _, rfl⟩
theorem order_dlt (a b : Dot) : orI [cmpI a.node b.node, cmpI a.seq b.seq, cmpI a.at' b.at'] < 0 ↔ dlt a b = true := by
 unfold dlt
 rw [decide_eq_true_eq]
 simp only [orI, cmpI]
 grind
/-- One step of a look at all and at all neighbours. -/
def Seen {α : Type} (p : α → Bool) (r : α → α → Bool) (l : List α) (i : Nat) : Prop := (∀ x ∈ l.take i, p x = true) ∧ ∀ (j : Nat) (h : j + 1 < l.length), j + 1 < i → r l[j] l[j + 1] = true
theorem seen0 {α : Type} (p : α → Bool) (r : α → α → Bool) (l : List α) : Seen p r l 0 := ⟨by simp, fun j _ h => by omega⟩
theorem seen_p {α : Type} {p : α → Bool} {r : α → α → Bool} {l : List α} {i : Nat} (h : i < l.length) (hp : p l[i] = false) : (l.all p && adj r l) = false := by
 rw [(List.all_eq_false).2 ⟨l[i], List.getElem_mem h, by simp [hp]⟩, Bool.false_and]
theorem seen_r {α : Type} {p : α → Bool} {r : α → α → Bool} {l : List α} {k : Nat} (h : k + 1 < l.length) (hr : r l[k] l[k + 1] = false) : (l.all p && adj r l) = false := by
 have : adj r l = false := by
  cases hq : adj r l with
  | false => rfl
  | true => rw [(adj_iff r l).1 hq k h] at hr; cases hr
 rw [this, Bool.and_false]
theorem seen_zero {α : Type} {p : α → Bool} {r : α → α → Bool} {l : List α} (h : 0 < l.length) (hp : p l[0] = true) : Seen p r l 1 := by
 refine ⟨fun x hx => ?_, fun j _ h => by omega⟩
 rw [List.take_succ_eq_append_getElem h] at hx
 simp at hx
 rw [hx]; exact hp
theorem seen_succ {α : Type} {p : α → Bool} {r : α → α → Bool} {l : List α} {k : Nat} (h : k + 1 < l.length) (hs : Seen p r l (k + 1)) (hp : p l[k + 1] = true) (hr : r l[k] l[k + 1] = true) : Seen p r l (k + 1 + 1) := by
 obtain ⟨h1, h2⟩ := hs
 refine ⟨(all_step h h1).2 hp, fun j hj hji => ?_⟩
 rcases Nat.lt_or_ge j k with h' | h'
 ·exact h2 j hj (by omega)
 ·have : j = k := by omega
  subst this; exact hr
theorem seen_end {α : Type} {p : α → Bool} {r : α → α → Bool} {l : List α} (hs : Seen p r l l.length) : (l.all p && adj r l) = true := by
 rw [all_end hs.1, Bool.true_and, adj_iff]
 exact fun i h => hs.2 i h h
theorem smMade {node seq : Int} {e : Eff} (h : smEff e) : smItem (made node seq e) := ⟨h.1, h.2.1, h.2.2.1⟩
theorem effFormed_walk (node seq : Int) (e : Eff) (he : smEff e) : ACalls Tryz.prog Nm.eff_Formed [i64 node, i64 seq, effA e] [] (.bool (effOk node seq e)) [] := by
 refine ACalls_of tab (dr_snd tab mixed) Nm.eff_Formed_h rfl (by kernel_rfl) (Nat.le_of_ble_eq_true rfl) rfl ?_
 rw [effOk, dropsOk]
 by_cases h : e.drops.length ≤ 64
 ·rw [decide_eq_true h, Bool.true_and]
  refine ND.no (by (simp only [zLm, zLa, zLr, zLc, zLn, zLt, zLd]; omega)) ?_
  refine NLoop.mk [] [0, 1, 2, 5, 15, 16, 17] (fun m vs H => ∃ i, i ≤ e.drops.length ∧ m = e.drops.length - i ∧ Seen dotOk dlt e.drops i ∧ H = [.row .box (.agg 7) [effA e]] ∧ vs = [i64 node, i64 seq, effA e, .ptr 0 0 0, dotsA e.drops, i64 e.drops.length, i64 i]) rfl ?_ ?_
  ·exact Canon.mk [0] rfl ⟨e.drops.length, 0, Nat.zero_le _, rfl, seen0 _ _ _, rfl, by simp [dotsA, i64]; rfl⟩
  ·rintro m vs H ⟨i, hi, rfl, hs, rfl, rfl⟩
   by_cases hil : i < e.drops.length
   ·have h1 := dot_walk' e.drops[i]
    cases hp : dotOk e.drops[i] with
    | false =>
     rw [hp] at h1
     rw [seen_p hil hp, Bool.false_and]
     refine ND.yes (by omega) ?_
     refine NP.mk (by omega) ?_
     refine NG.mapN (by omega) ?_
     refine NP.mk (by kernel_rfl) ?_
     apply NDr.rd [1]
     ·intro fH TH
      exact ⟨rfl, rfl⟩
     apply NDr.pure
     ·refine NCall.call (h1) rfl rfl ?_
      exact ⟨rfl, rfl⟩
     refine NDr.w _ ?_
     refine NDr.w _ ?_
     refine NDr.w _ ?_
     refine NP.mk (by kernel_rfl) ?_
     exact NRet.mk [] rfl ⟨.refl _, rfl⟩
    | true =>
     rw [hp] at h1
     cases i with
     | zero =>
      refine ND.yes (by omega) ?_
      refine NP.mk (by omega) ?_
      refine NG.mapN (by omega) ?_
      refine NP.mk (by kernel_rfl) ?_
      apply NDr.rd [1]
      ·intro fH TH
       exact ⟨rfl, rfl⟩
      apply NDr.pure
      ·refine NCall.call (h1) rfl rfl ?_
       exact ⟨rfl, rfl⟩
      refine NDr.w _ ?_
      refine NDr.w _ ?_
      refine NDr.w _ ?_
      apply NDr.pure
      ·refine ND.no (by omega) ?_
       exact ⟨rfl, rfl⟩
      refine NDr.w _ ?_
      refine NDr.w _ ?_
      refine NDr.w _ ?_
      refine NP.mk (by kernel_rfl) ?_
      refine NW.w ?_
      exact Canon.mk [0] rfl ⟨e.drops.length - 1, by omega, 1, by omega, rfl, seen_zero hil hp, rfl, rfl⟩
     | succ k =>
      have h2 := order_walk e.drops[k] e.drops[k + 1]
      have ho := order_dlt e.drops[k] e.drops[k + 1]
      have ek : Int.toNat (((k + 1 : Nat) : Int) - 1) = k := by omega
      generalize orI [cmpI e.drops[k].node e.drops[k + 1].node, cmpI e.drops[k].seq e.drops[k + 1].seq, cmpI e.drops[k].at' e.drops[k + 1].at'] = q at *
      cases hr : dlt e.drops[k] e.drops[k + 1] with
      | false =>
       rw [hr] at ho
       have hq : 0 ≤ q := Int.not_lt.1 fun h => by simpa using ho.1 h
       rw [seen_r hil hr, Bool.false_and]
       refine ND.yes (by omega) ?_
       refine NP.mk (by omega) ?_
       refine NG.mapN (by omega) ?_
       refine NP.mk (by kernel_rfl) ?_
       apply NDr.rd [1]
       ·intro fH TH
        exact ⟨rfl, rfl⟩
       apply NDr.pure
       ·refine NCall.call (h1) rfl rfl ?_
        exact ⟨rfl, rfl⟩
       refine NDr.w _ ?_
       refine NDr.w _ ?_
       refine NDr.w _ ?_
       apply NDr.pure
       ·refine ND.yes (by omega) ?_
        exact ⟨rfl, rfl⟩
       refine NDr.w _ ?_
       apply NDr.rd [0]
       ·intro fH TH
        exact ⟨rfl, rfl⟩
       apply NDr.rd [0]
       ·intro fH TH
        exact ⟨rfl, rfl⟩
       refine NDr.w _ ?_
       apply NDr.pure
       ·refine NW.w ?_
        exact ⟨rfl, rfl⟩
       apply NDr.pure
       ·refine NP.mk (by omega) ?_
        rw [(ek)]
        refine NG.mapN (by omega) ?_
        exact ⟨rfl, rfl⟩
       refine NDr.w _ ?_
       apply NDr.rd [1]
       ·intro fH TH
        exact ⟨rfl, rfl⟩
       apply NDr.pure
       ·refine NCall.call (h2) rfl rfl ?_
        exact ⟨rfl, rfl⟩
       apply NDr.pure
       ·refine ND.yes (by omega) ?_
        exact ⟨rfl, rfl⟩
       refine NDr.w _ ?_
       refine NDr.w _ ?_
       refine NP.mk (by kernel_rfl) ?_
       exact NRet.mk [] rfl ⟨.refl _, rfl⟩
      | true =>
       have hq := ho.2 hr
       refine ND.yes (by omega) ?_
       refine NP.mk (by omega) ?_
       refine NG.mapN (by omega) ?_
       refine NP.mk (by kernel_rfl) ?_
       apply NDr.rd [1]
       ·intro fH TH
        exact ⟨rfl, rfl⟩
       apply NDr.pure
       ·refine NCall.call (h1) rfl rfl ?_
        exact ⟨rfl, rfl⟩
       refine NDr.w _ ?_
       refine NDr.w _ ?_
       refine NDr.w _ ?_
       apply NDr.pure
       ·refine ND.yes (by omega) ?_
        exact ⟨rfl, rfl⟩
       refine NDr.w _ ?_
       apply NDr.rd [0]
       ·intro fH TH
        exact ⟨rfl, rfl⟩
       apply NDr.rd [0]
       ·intro fH TH
        exact ⟨rfl, rfl⟩
       refine NDr.w _ ?_
       apply NDr.pure
       ·refine NW.w ?_
        exact ⟨rfl, rfl⟩
       apply NDr.pure
       ·refine NP.mk (by omega) ?_
        rw [(ek)]
        refine NG.mapN (by omega) ?_
        exact ⟨rfl, rfl⟩
       refine NDr.w _ ?_
       apply NDr.rd [1]
       ·intro fH TH
        exact ⟨rfl, rfl⟩
       apply NDr.pure
       ·refine NCall.call (h2) rfl rfl ?_
        exact ⟨rfl, rfl⟩
       apply NDr.pure
       ·refine ND.no (by omega) ?_
        exact ⟨rfl, rfl⟩
       refine NDr.w _ ?_
       refine NDr.w _ ?_
       refine NP.mk (by kernel_rfl) ?_
       refine NW.w ?_
       exact Canon.mk [0] rfl ⟨e.drops.length - (k + 1 + 1), by omega, k + 1 + 1, by omega, rfl, seen_succ hil hs hp hr, rfl, rfl⟩
   ·have : i = e.drops.length := by omega
    subst this
    rw [seen_end hs, Bool.true_and]
    have h3 := made_walk node seq e
    by_cases hk : e.kind = 0
    ·rw [if_pos hk]
     have h4 := itemFormed_walk (made node seq { e with kind := 1 }) (smMade he)
     refine ND.no (by omega) ?_
     refine ND.yes (by omega) ?_
     refine NCall.call (h3) rfl rfl ?_
     refine NCall.call (h4) rfl rfl ?_
     refine NB.mk (fun hk3 => ?_) (fun hk3 => ?_)
     ·refine NB.yes (by simp [*]) ?_
      refine NB.yes (by simp [*]) ?_
      refine NB.dec (fun hk6 => ?_) (fun hk6 => ?_)
      ·refine NB.mk (fun hk7 => ?_) (fun hk7 => ?_)
       ·refine NB.dec (fun hk8 => ?_) (fun hk8 => ?_)
        ·refine NRet.boolE (b := true) ?_ (NRet.mk [] rfl ⟨.refl _, rfl⟩)
         grind [List.length_eq_zero_iff]
        refine NRet.boolE (b := false) ?_ (NRet.mk [] rfl ⟨.refl _, rfl⟩)
        grind [List.length_eq_zero_iff]
       refine NRet.boolE (b := false) ?_ (NRet.mk [] rfl ⟨.refl _, rfl⟩)
       grind [List.length_eq_zero_iff]
      refine NB.yes (by simp [*]) ?_
      refine NRet.boolE (b := false) ?_ (NRet.mk [] rfl ⟨.refl _, rfl⟩)
      grind [List.length_eq_zero_iff]
     refine NB.no (by simp [*]) ?_
     refine NB.no (by simp [*]) ?_
     refine NB.no (by simp [*]) ?_
     refine NRet.boolE (b := false) ?_ (NRet.mk [] rfl ⟨.refl _, rfl⟩)
     grind [List.length_eq_zero_iff]
    ·rw [if_neg hk]
     have h4 := itemFormed_walk (made node seq e) (smMade he)
     refine ND.no (by omega) ?_
     refine ND.no (by omega) ?_
     refine NCall.call (h3) rfl rfl ?_
     refine NCall.call (h4) rfl rfl ?_
     exact NRet.mk [] rfl ⟨.refl _, rfl⟩
 ·rw [decide_eq_false h, Bool.false_and, Bool.false_and]
  refine ND.yes (by (simp only [zLm, zLa, zLr, zLc, zLn, zLt, zLd]; omega)) ?_
  exact NRet.mk [] rfl ⟨.refl _, rfl⟩
theorem effFormed10_walk (node seq : Int) (e : Eff) (he : smEff e) : ACalls Tryz.prog Nm.ref10_Formed [i64 node, i64 seq, effA e] [] (.bool (effOk node seq e)) [] := by
 refine ACalls_of tab (dr_snd tab mixed) Nm.ref10_Formed_h rfl (by kernel_rfl) (Nat.le_of_ble_eq_true rfl) rfl ?_
 rw [effOk, dropsOk]
 by_cases h : e.drops.length ≤ 64
 ·rw [decide_eq_true h, Bool.true_and]
  refine ND.no (by (simp only [zLm, zLa, zLr, zLc, zLn, zLt, zLd]; omega)) ?_
  refine NLoop.mk [] [0, 1, 2, 5, 7] (fun m vs H => ∃ i, i ≤ e.drops.length ∧ m = e.drops.length - i ∧ Seen dotOk dlt e.drops i ∧ H = [.row .box (.agg 7) [effA e]] ∧ vs = [i64 node, i64 seq, effA e, .ptr 0 0 0, i64 i]) rfl ?_ ?_
  ·exact Canon.mk [0] rfl ⟨e.drops.length, 0, Nat.zero_le _, rfl, seen0 _ _ _, rfl, rfl⟩
  ·rintro m vs H ⟨i, hi, rfl, hs, rfl, rfl⟩
   by_cases hil : i < e.drops.length
   ·have h1 := may10_walk e.drops[i]
    cases hp : dotOk e.drops[i] with
    | false =>
     rw [hp] at h1
     rw [seen_p hil hp, Bool.false_and]
     refine ND.yes (by (simp only [zLm, zLa, zLr, zLc, zLn, zLt, zLd]; omega)) ?_
     refine NP.mk (by kernel_rfl) ?_
     apply NDr.rd [0]
     ·intro fH TH
      exact ⟨rfl, rfl⟩
     apply NDr.rd [0]
     ·intro fH TH
      exact ⟨rfl, rfl⟩
     refine NDr.w _ ?_
     apply NDr.pure
     ·refine NP.mk (by omega) ?_
      refine NG.mapN (by omega) ?_
      exact ⟨rfl, rfl⟩
     refine NDr.w _ ?_
     apply NDr.pure
     ·refine NCall.call (h1) rfl rfl ?_
      exact ⟨rfl, rfl⟩
     refine NDr.w _ ?_
     refine NDr.w _ ?_
     refine NDr.w _ ?_
     refine NP.mk (by kernel_rfl) ?_
     exact NRet.mk [] rfl ⟨.refl _, rfl⟩
    | true =>
     rw [hp] at h1
     cases i with
     | zero =>
      refine ND.yes (by (simp only [zLm, zLa, zLr, zLc, zLn, zLt, zLd]; omega)) ?_
      refine NP.mk (by kernel_rfl) ?_
      apply NDr.rd [0]
      ·intro fH TH
       exact ⟨rfl, rfl⟩
      apply NDr.rd [0]
      ·intro fH TH
       exact ⟨rfl, rfl⟩
      refine NDr.w _ ?_
      apply NDr.pure
      ·refine NP.mk (by omega) ?_
       refine NG.mapN (by omega) ?_
       exact ⟨rfl, rfl⟩
      refine NDr.w _ ?_
      apply NDr.pure
      ·refine NCall.call (h1) rfl rfl ?_
       exact ⟨rfl, rfl⟩
      refine NDr.w _ ?_
      refine NDr.w _ ?_
      refine NDr.w _ ?_
      apply NDr.pure
      ·refine ND.no (by omega) ?_
       exact ⟨rfl, rfl⟩
      refine NDr.w _ ?_
      refine NDr.w _ ?_
      refine NDr.w _ ?_
      refine NP.mk (by kernel_rfl) ?_
      refine NW.w ?_
      exact Canon.mk [0] rfl ⟨e.drops.length - 1, by omega, 1, by omega, rfl, seen_zero hil hp, rfl, rfl⟩
     | succ k =>
      have h2 := ahead10_walk e.drops[k] e.drops[k + 1]
      have ek : Int.toNat (((k + 1 : Nat) : Int) - 1) = k := by omega
      cases hr : dlt e.drops[k] e.drops[k + 1] with
      | false =>
       rw [hr] at h2
       rw [seen_r hil hr, Bool.false_and]
       refine ND.yes (by (simp only [zLm, zLa, zLr, zLc, zLn, zLt, zLd]; omega)) ?_
       refine NP.mk (by kernel_rfl) ?_
       apply NDr.rd [0]
       ·intro fH TH
        exact ⟨rfl, rfl⟩
       apply NDr.rd [0]
       ·intro fH TH
        exact ⟨rfl, rfl⟩
       refine NDr.w _ ?_
       apply NDr.pure
       ·refine NP.mk (by omega) ?_
        refine NG.mapN (by omega) ?_
        exact ⟨rfl, rfl⟩
       refine NDr.w _ ?_
       apply NDr.pure
       ·refine NCall.call (h1) rfl rfl ?_
        exact ⟨rfl, rfl⟩
       refine NDr.w _ ?_
       refine NDr.w _ ?_
       refine NDr.w _ ?_
       apply NDr.pure
       ·refine ND.yes (by omega) ?_
        exact ⟨rfl, rfl⟩
       refine NDr.w _ ?_
       apply NDr.rd [0]
       ·intro fH TH
        exact ⟨rfl, rfl⟩
       apply NDr.rd [0]
       ·intro fH TH
        exact ⟨rfl, rfl⟩
       refine NDr.w _ ?_
       apply NDr.pure
       ·refine NW.w ?_
        exact ⟨rfl, rfl⟩
       apply NDr.pure
       ·refine NP.mk (by omega) ?_
        rw [(ek)]
        refine NG.mapN (by omega) ?_
        exact ⟨rfl, rfl⟩
       refine NDr.w _ ?_
       apply NDr.rd [0]
       ·intro fH TH
        exact ⟨rfl, rfl⟩
       apply NDr.rd [0]
       ·intro fH TH
        exact ⟨rfl, rfl⟩
       refine NDr.w _ ?_
       apply NDr.pure
       ·refine NP.mk (by omega) ?_
        refine NG.mapN (by omega) ?_
        exact ⟨rfl, rfl⟩
       refine NDr.w _ ?_
       apply NDr.pure
       ·refine NCall.call (h2) rfl rfl ?_
        exact ⟨rfl, rfl⟩
       refine NDr.w _ ?_
       refine NDr.w _ ?_
       refine NDr.w _ ?_
       refine NP.mk (by kernel_rfl) ?_
       exact NRet.mk [] rfl ⟨.refl _, rfl⟩
      | true =>
       rw [hr] at h2
       refine ND.yes (by (simp only [zLm, zLa, zLr, zLc, zLn, zLt, zLd]; omega)) ?_
       refine NP.mk (by kernel_rfl) ?_
       apply NDr.rd [0]
       ·intro fH TH
        exact ⟨rfl, rfl⟩
       apply NDr.rd [0]
       ·intro fH TH
        exact ⟨rfl, rfl⟩
       refine NDr.w _ ?_
       apply NDr.pure
       ·refine NP.mk (by omega) ?_
        refine NG.mapN (by omega) ?_
        exact ⟨rfl, rfl⟩
       refine NDr.w _ ?_
       apply NDr.pure
       ·refine NCall.call (h1) rfl rfl ?_
        exact ⟨rfl, rfl⟩
       refine NDr.w _ ?_
       refine NDr.w _ ?_
       refine NDr.w _ ?_
       apply NDr.pure
       ·refine ND.yes (by omega) ?_
        exact ⟨rfl, rfl⟩
       refine NDr.w _ ?_
       apply NDr.rd [0]
       ·intro fH TH
        exact ⟨rfl, rfl⟩
       apply NDr.rd [0]
       ·intro fH TH
        exact ⟨rfl, rfl⟩
       refine NDr.w _ ?_
       apply NDr.pure
       ·refine NW.w ?_
        exact ⟨rfl, rfl⟩
       apply NDr.pure
       ·refine NP.mk (by omega) ?_
        rw [(ek)]
        refine NG.mapN (by omega) ?_
        exact ⟨rfl, rfl⟩
       refine NDr.w _ ?_
       apply NDr.rd [0]
       ·intro fH TH
        exact ⟨rfl, rfl⟩
       apply NDr.rd [0]
       ·intro fH TH
        exact ⟨rfl, rfl⟩
       refine NDr.w _ ?_
       apply NDr.pure
       ·refine NP.mk (by omega) ?_
        refine NG.mapN (by omega) ?_
        exact ⟨rfl, rfl⟩
       refine NDr.w _ ?_
       apply NDr.pure
       ·refine NCall.call (h2) rfl rfl ?_
        exact ⟨rfl, rfl⟩
       refine NDr.w _ ?_
       refine NDr.w _ ?_
       refine NDr.w _ ?_
       refine NP.mk (by kernel_rfl) ?_
       refine NW.w ?_
       exact Canon.mk [0] rfl ⟨e.drops.length - (k + 1 + 1), by omega, k + 1 + 1, by omega, rfl, seen_succ hil hs hp hr, rfl, rfl⟩
   ·have : i = e.drops.length := by omega
    subst this
    rw [seen_end hs, Bool.true_and]
    have h3 := made10_walk node seq e
    have h4 := item9_walk (made node seq e) (smMade he)
    have h5 := key8_walk e.key (by have := he.1; omega)
    have h6 := prefix8_walk e.field (by have := he.2.1; omega)
    have h7 := may10_walk ⟨node, seq, e.at'⟩
    by_cases hk : e.kind = 0
    ·rw [if_pos hk]
     refine ND.no (by (simp only [zLm, zLa, zLr, zLc, zLn, zLt, zLd]; omega)) ?_
     refine ND.yes (by omega) ?_
     refine NB.dec (fun hk3 => ?_) (fun hk3 => ?_)
     ·refine NB.dec (fun hk4 => ?_) (fun hk4 => ?_)
      ·refine NB.dec (fun hk5 => ?_) (fun hk5 => ?_)
       ·refine NCall.call (h5) rfl rfl ?_
        refine NB.mk (fun hk6 => ?_) (fun hk6 => ?_)
        ·refine NB.yes (by simp [*]) ?_
         refine NB.yes (by simp [*]) ?_
         refine NCall.call (h6) rfl rfl ?_
         refine NB.yes (by simp [*]) ?_
         refine NB.mk (fun hk10 => ?_) (fun hk10 => ?_)
         ·refine NB.yes (by simp [*]) ?_
          refine NB.yes (by simp [*]) ?_
          refine NB.yes (by simp [*]) ?_
          refine NB.yes (by simp [*]) ?_
          refine NB.yes (by simp [*]) ?_
          refine NCall.call (h7) rfl rfl ?_
          refine NB.yes (by simp [*]) ?_
          refine NRet.boolE ?_ (NRet.mk [] rfl ⟨.refl _, rfl⟩)
          grind [itemOk, made, kindOk, List.length_eq_zero_iff]
         refine NB.no (by simp [*]) ?_
         refine NB.no (by simp [*]) ?_
         refine NB.no (by simp [*]) ?_
         refine NB.no (by simp [*]) ?_
         refine NB.no (by simp [*]) ?_
         refine NB.no (by simp [*]) ?_
         refine NRet.boolE (b := false) ?_ (NRet.mk [] rfl ⟨.refl _, rfl⟩)
         grind [itemOk, made, kindOk, List.length_eq_zero_iff]
        refine NB.no (by simp [*]) ?_
        refine NB.no (by simp [*]) ?_
        refine NB.no (by simp [*]) ?_
        refine NRet.boolE (b := false) ?_ (NRet.mk [] rfl ⟨.refl _, rfl⟩)
        grind [itemOk, made, kindOk, List.length_eq_zero_iff]
       refine NRet.boolE (b := false) ?_ (NRet.mk [] rfl ⟨.refl _, rfl⟩)
       grind [itemOk, made, kindOk, List.length_eq_zero_iff]
      refine NRet.boolE (b := false) ?_ (NRet.mk [] rfl ⟨.refl _, rfl⟩)
      grind [itemOk, made, kindOk, List.length_eq_zero_iff]
     refine NRet.boolE (b := false) ?_ (NRet.mk [] rfl ⟨.refl _, rfl⟩)
     grind [itemOk, made, kindOk, List.length_eq_zero_iff]
    ·rw [if_neg hk]
     refine ND.no (by (simp only [zLm, zLa, zLr, zLc, zLn, zLt, zLd]; omega)) ?_
     refine ND.no (by omega) ?_
     refine NCall.call (h3) rfl rfl ?_
     refine NCall.call (h4) rfl rfl ?_
     exact NRet.mk [] rfl ⟨.refl _, rfl⟩
 ·rw [decide_eq_false h, Bool.false_and, Bool.false_and]
  refine ND.yes (by (simp only [zLm, zLa, zLr, zLc, zLn, zLt, zLd]; omega)) ?_
  exact NRet.mk [] rfl ⟨.refl _, rfl⟩
def heard1 (node seq : Int) (v : List Int) (d : Dot) : Bool := hasB v d.node d.seq || decide (d.node = node ∧ d.seq = seq)
theorem effHeard_walk (l : List Eff) (node seq : Int) (v : List Int) (hl : l.length ≤ 2 ^ 40) (hx : ∀ e ∈ l, smEff e) (hv : v.length ≤ 2 ^ 40) : ACalls Tryz.prog Nm.eff_Heard [effsA l, i64 node, i64 seq, ints v] [] (.bool (heardB l node seq v)) [] := by
 refine ACalls_of tab (dr_snd tab mixed) Nm.eff_Heard_h rfl (by kernel_rfl) (Nat.le_of_ble_eq_true rfl) rfl ?_
 refine NLoop.mk [] [1, 2, 3, 13, 14, 15] (fun m vs H => ∃ i, i ≤ l.length ∧ m = l.length - i ∧ (∀ x ∈ l.take i, (x.drops.all (heard1 node seq v)) = true) ∧ H = [] ∧ vs = [i64 node, i64 seq, ints v, effsA l, i64 l.length, i64 i]) rfl ?_ ?_
 ·exact Canon.mk [] rfl ⟨l.length, 0, Nat.zero_le _, rfl, by simp, rfl, by simp [effsA, ints, i64]⟩
 ·rintro m vs H ⟨i, hi, rfl, ht, rfl, rfl⟩
  by_cases hil : i < l.length
  ·obtain ⟨f1, f2⟩ := all_step hil ht
   have hd := (hx _ (List.getElem_mem hil)).2.2.2
   refine ND.yes (by omega) ?_
   refine NP.mk (by omega) ?_
   refine NG.mapN (by omega) ?_
   refine NLoop.mk [] [1, 2, 3, 13, 14, 15, 20, 21, 22] (fun m vs H => ∃ k, k ≤ l[i].drops.length ∧ m = l[i].drops.length - k ∧ (∀ x ∈ l[i].drops.take k, heard1 node seq v x = true) ∧ H = [] ∧ vs = [i64 node, i64 seq, ints v, effsA l, i64 l.length, i64 i, dotsA l[i].drops, i64 l[i].drops.length, i64 k]) rfl ?_ ?_
   ·exact Canon.mk [] rfl ⟨l[i].drops.length, 0, Nat.zero_le _, rfl, by simp, rfl, by simp [effsA, ints, dotsA, i64]⟩
   ·rintro m vs H ⟨k, hk, rfl, htk, rfl, rfl⟩
    by_cases hkl : k < l[i].drops.length
    ·obtain ⟨g1, g2⟩ := all_step hkl htk
     have h1 := vecHas_walk v l[i].drops[k].node l[i].drops[k].seq l[i].drops[k].at' hv
     have bad : heard1 node seq v l[i].drops[k] = false → false = heardB l node seq v := fun h => (f1 (g1 h)).symm
     have fin : heard1 node seq v l[i].drops[k] = true → ∃ m', m' < l[i].drops.length - k ∧ ∃ k', k' ≤ l[i].drops.length ∧ m' = l[i].drops.length - k' ∧ (∀ x ∈ l[i].drops.take k', heard1 node seq v x = true) ∧ ([] : List Blk) = [] ∧ [i64 node, i64 seq, ints v, effsA l, i64 l.length, i64 i, dotsA l[i].drops, i64 l[i].drops.length, i64 ((k + 1 : Nat) : Int)] = [i64 node, i64 seq, ints v, effsA l, i64 l.length, i64 i, dotsA l[i].drops, i64 l[i].drops.length, i64 k'] := fun h =>
      ⟨l[i].drops.length - (k + 1), by omega, k + 1, by omega, rfl, g2 h, rfl, rfl⟩
     refine ND.yes (by omega) ?_
     refine NP.mk (by omega) ?_
     refine NG.mapN (by omega) ?_
     refine NCall.call (h1) rfl rfl ?_
     refine NB.mk (fun hk2 => ?_) (fun hk2 => ?_)
     ·refine NW.w ?_
      exact (Canon.mk [] rfl (fin (by grind [heard1, hasB])))
     refine NB.dec (fun hk3 => ?_) (fun hk3 => ?_)
     ·refine NB.dec (fun hk4 => ?_) (fun hk4 => ?_)
      ·refine NW.w ?_
       exact (Canon.mk [] rfl (fin (by grind [heard1, hasB])))
      refine NRet.boolE (b := false) ?_ (NRet.mk [] rfl ⟨.refl _, rfl⟩)
      exact bad (by grind [heard1, hasB])
     refine NRet.boolE (b := false) ?_ (NRet.mk [] rfl ⟨.refl _, rfl⟩)
     exact bad (by grind [heard1, hasB])
    ·have : k = l[i].drops.length := by omega
     have htk := all_end (this ▸ htk)
     refine ND.no (by omega) ?_
     refine NW.w ?_
     exact Canon.mk [] rfl ⟨l.length - (i + 1), by omega, i + 1, by omega, rfl, f2 htk, rfl, rfl⟩
  ·have : i = l.length := by omega
   subst this
   rw [show heardB l node seq v = true from all_end ht]
   refine ND.no (by omega) ?_
   exact NRet.mk [] rfl ⟨.refl _, rfl⟩
theorem effHeard10_walk (l : List Eff) (node seq : Int) (v : List Int) (hl : l.length ≤ 2 ^ 40) (hx : ∀ e ∈ l, smEff e) (hv : v.length ≤ 2 ^ 40) : ACalls Tryz.prog Nm.ref10_Heard [effsA l, i64 node, i64 seq, ints v] [] (.bool (heardB l node seq v)) [] := by
 refine ACalls_of tab (dr_snd tab mixed) Nm.ref10_Heard_h rfl (by kernel_rfl) (Nat.le_of_ble_eq_true rfl) rfl ?_
 refine NLoop.mk [] [0, 1, 2, 3, 9] (fun m vs H => ∃ i, i ≤ l.length ∧ m = l.length - i ∧ (∀ x ∈ l.take i, (x.drops.all (heard1 node seq v)) = true) ∧ H = [] ∧ vs = [effsA l, i64 node, i64 seq, ints v, i64 i]) rfl ?_ ?_
 ·exact Canon.mk [] rfl ⟨l.length, 0, Nat.zero_le _, rfl, by simp, rfl, rfl⟩
 ·rintro m vs H ⟨i, hi, rfl, ht, rfl, rfl⟩
  by_cases hil : i < l.length
  ·obtain ⟨f1, f2⟩ := all_step hil ht
   have hd := (hx _ (List.getElem_mem hil)).2.2.2
   refine ND.yes (by (simp only [zLm, zLa, zLr, zLc, zLn, zLt, zLd]; omega)) ?_
   refine NLoop.mk [] [0, 1, 2, 3, 9, 10] (fun m vs H => ∃ k, k ≤ l[i].drops.length ∧ m = l[i].drops.length - k ∧ (∀ x ∈ l[i].drops.take k, heard1 node seq v x = true) ∧ H = [] ∧ vs = [effsA l, i64 node, i64 seq, ints v, i64 i, i64 k]) rfl ?_ ?_
   ·exact Canon.mk [] rfl ⟨l[i].drops.length, 0, Nat.zero_le _, rfl, by simp, rfl, rfl⟩
   ·rintro m vs H ⟨k, hk, rfl, htk, rfl, rfl⟩
    by_cases hkl : k < l[i].drops.length
    ·obtain ⟨g1, g2⟩ := all_step hkl htk
     have h1 := at7_walk v l[i].drops[k].node hv
     have bad : heard1 node seq v l[i].drops[k] = false → false = heardB l node seq v := fun h => (f1 (g1 h)).symm
     have fin : heard1 node seq v l[i].drops[k] = true → ∃ m', m' < l[i].drops.length - k ∧ ∃ k', k' ≤ l[i].drops.length ∧ m' = l[i].drops.length - k' ∧ (∀ x ∈ l[i].drops.take k', heard1 node seq v x = true) ∧ ([] : List Blk) = [] ∧ [effsA l, i64 node, i64 seq, ints v, i64 i, i64 ((k + 1 : Nat) : Int)] = [effsA l, i64 node, i64 seq, ints v, i64 i, i64 k'] := fun h =>
      ⟨l[i].drops.length - (k + 1), by omega, k + 1, by omega, rfl, g2 h, rfl, rfl⟩
     refine NP.mk (by omega) ?_
     refine NG.mapN (by omega) ?_
     refine ND.yes (by (simp only [zLm, zLa, zLr, zLc, zLn, zLt, zLd]; omega)) ?_
     refine NP.mk (by omega) ?_
     refine NG.mapN (by omega) ?_
     refine NP.mk (by omega) ?_
     refine NG.mapN (by omega) ?_
     refine NB.dec (fun hk2 => ?_) (fun hk2 => ?_)
     ·refine NB.dec (fun hk3 => ?_) (fun hk3 => ?_)
      ·refine NP.mk (by kernel_rfl) ?_
       refine NDr.w _ ?_
       refine NDr.w _ ?_
       refine NDr.w _ ?_
       refine NDr.w _ ?_
       refine NP.mk (by kernel_rfl) ?_
       refine NW.w ?_
       exact (Canon.mk [] rfl (fin (by grind [heard1, hasB])))
      refine NP.mk (by kernel_rfl) ?_
      refine NDr.w _ ?_
      refine NDr.w _ ?_
      refine NDr.w _ ?_
      apply NDr.rd [0]
      ·intro fH TH
       exact ⟨rfl, rfl⟩
      apply NDr.rd [0]
      ·intro fH TH
       exact ⟨rfl, rfl⟩
      apply NDr.pure
      ·exact NB.det
      refine NDr.w _ ?_
      refine NB.mk (fun hk5 => ?_) (fun hk5 => ?_)
      ·refine NB.yes (by simp [*]) ?_
       refine NB.yes (by simp [*]) ?_
       refine NB.yes (by simp [*]) ?_
       refine NB.yes (by simp [*]) ?_
       refine NB.yes (by simp [*]) ?_
       refine NB.yes (by simp [*]) ?_
       apply NDr.pure
       ·refine NB.yes (by simp [*]) ?_
        exact ⟨rfl, rfl⟩
       refine NDr.w _ ?_
       refine NP.mk (by kernel_rfl) ?_
       refine NRet.boolE (b := false) ?_ (NRet.mk [] rfl ⟨.refl _, rfl⟩)
       exact bad (by grind [heard1, hasB])
      apply NDr.rd [0]
      ·intro fH TH
       exact ⟨rfl, rfl⟩
      refine NB.no (by simp [*]) ?_
      apply NDr.rd [0]
      ·intro fH TH
       exact ⟨rfl, rfl⟩
      refine NB.no (by simp [*]) ?_
      refine NDr.w _ ?_
      refine NB.no (by simp [*]) ?_
      apply NDr.rd [0]
      ·intro fH TH
       exact ⟨rfl, rfl⟩
      refine NB.no (by simp [*]) ?_
      apply NDr.rd [0]
      ·intro fH TH
       exact ⟨rfl, rfl⟩
      refine NB.no (by simp [*]) ?_
      apply NDr.pure
      ·refine NCall.call (h1) rfl rfl ?_
       exact ⟨rfl, rfl⟩
      refine NB.no (by simp [*]) ?_
      apply NDr.pure
      ·exact NB.det
      apply NDr.pure
      ·refine NB.no (by simp [*]) ?_
       exact ⟨rfl, rfl⟩
      refine NDr.w _ ?_
      refine NP.mk (by kernel_rfl) ?_
      refine NB.mk (fun hk21 => ?_) (fun hk21 => ?_)
      ·refine NRet.boolE (b := false) ?_ (NRet.mk [] rfl ⟨.refl _, rfl⟩)
       exact bad (by grind [heard1, hasB])
      refine NW.w ?_
      exact (Canon.mk [] rfl (fin (by grind [heard1, hasB])))
     refine NP.mk (by kernel_rfl) ?_
     refine NDr.w _ ?_
     refine NDr.w _ ?_
     refine NDr.w _ ?_
     apply NDr.rd [0]
     ·intro fH TH
      exact ⟨rfl, rfl⟩
     apply NDr.rd [0]
     ·intro fH TH
      exact ⟨rfl, rfl⟩
     apply NDr.pure
     ·exact NB.det
     refine NDr.w _ ?_
     refine NB.mk (fun hk23 => ?_) (fun hk23 => ?_)
     ·refine NB.yes (by simp [*]) ?_
      refine NB.yes (by simp [*]) ?_
      refine NB.yes (by simp [*]) ?_
      refine NB.yes (by simp [*]) ?_
      refine NB.yes (by simp [*]) ?_
      refine NB.yes (by simp [*]) ?_
      apply NDr.pure
      ·refine NB.yes (by simp [*]) ?_
       exact ⟨rfl, rfl⟩
      refine NDr.w _ ?_
      refine NP.mk (by kernel_rfl) ?_
      refine NRet.boolE (b := false) ?_ (NRet.mk [] rfl ⟨.refl _, rfl⟩)
      exact bad (by grind [heard1, hasB])
     apply NDr.rd [0]
     ·intro fH TH
      exact ⟨rfl, rfl⟩
     refine NB.no (by simp [*]) ?_
     apply NDr.rd [0]
     ·intro fH TH
      exact ⟨rfl, rfl⟩
     refine NB.no (by simp [*]) ?_
     refine NDr.w _ ?_
     refine NB.no (by simp [*]) ?_
     apply NDr.rd [0]
     ·intro fH TH
      exact ⟨rfl, rfl⟩
     refine NB.no (by simp [*]) ?_
     apply NDr.rd [0]
     ·intro fH TH
      exact ⟨rfl, rfl⟩
     refine NB.no (by simp [*]) ?_
     apply NDr.pure
     ·refine NCall.call (h1) rfl rfl ?_
      exact ⟨rfl, rfl⟩
     refine NB.no (by simp [*]) ?_
     apply NDr.pure
     ·exact NB.det
     apply NDr.pure
     ·refine NB.no (by simp [*]) ?_
      exact ⟨rfl, rfl⟩
     refine NDr.w _ ?_
     refine NP.mk (by kernel_rfl) ?_
     refine NB.mk (fun hk39 => ?_) (fun hk39 => ?_)
     ·refine NRet.boolE (b := false) ?_ (NRet.mk [] rfl ⟨.refl _, rfl⟩)
      exact bad (by grind [heard1, hasB])
     refine NW.w ?_
     exact (Canon.mk [] rfl (fin (by grind [heard1, hasB])))
    ·have : k = l[i].drops.length := by omega
     have htk := all_end (this ▸ htk)
     refine NP.mk (by omega) ?_
     refine NG.mapN (by omega) ?_
     refine ND.no (by (simp only [zLm, zLa, zLr, zLc, zLn, zLt, zLd]; omega)) ?_
     refine NW.w ?_
     exact Canon.mk [] rfl ⟨l.length - (i + 1), by omega, i + 1, by omega, rfl, f2 htk, rfl, rfl⟩
  ·have : i = l.length := by omega
   subst this
   rw [show heardB l node seq v = true from all_end ht]
   refine ND.no (by (simp only [zLm, zLa, zLr, zLc, zLn, zLt, zLd]; omega)) ?_
   exact NRet.mk [] rfl ⟨.refl _, rfl⟩
def ownBad (node seq : Int) (e : Eff) (d : Dot) : Bool := decide (d.node = node ∧ d.seq = seq ∧ e.at' ≤ d.at')
theorem ownOk_any (node seq : Int) (e : Eff) : ownOk node seq e = !e.drops.any (ownBad node seq e) := by
 unfold ownOk ownBad
 rw [List.not_any_eq_all_not]
 congr 1; funext d
 simp
 grind
def atLt (a b : Eff) : Bool := decide (a.at' < b.at')
def eff1 (node seq : Int) (e : Eff) : Bool := effOk node seq e && ownOk node seq e
theorem right10_walk (node seq : Int) (l : List Eff) (hl : l.length ≤ 2 ^ 40) (hx : ∀ e ∈ l, smEff e) : ACalls Tryz.prog Nm.ref10_Right [i64 node, i64 seq, effsA l] [] (.bool (effsOk node seq l)) [] := by
 refine ACalls_of tab (dr_snd tab mixed) Nm.ref10_Right_h rfl (by kernel_rfl) (Nat.le_of_ble_eq_true rfl) rfl ?_
 have e0 : effsOk node seq l = (l.all (eff1 node seq) && adj atLt l) := rfl
 rw [e0]
 refine NLoop.mk [] [0, 1, 2, 7] (fun m vs H => ∃ i, i ≤ l.length ∧ m = l.length - i ∧ Seen (eff1 node seq) atLt l i ∧ H = [] ∧ vs = [i64 node, i64 seq, effsA l, i64 i]) rfl ?_ ?_
 ·exact Canon.mk [] rfl ⟨l.length, 0, Nat.zero_le _, rfl, seen0 _ _ _, rfl, rfl⟩
 ·rintro m vs H ⟨i, hi, rfl, hs, rfl, rfl⟩
  by_cases hil : i < l.length
  ·have hxi := hx _ (List.getElem_mem hil)
   have h1 := effFormed10_walk node seq l[i] hxi
   have h64 := hxi.2.2.2
   cases hp : effOk node seq l[i] with
   | false =>
    rw [hp] at h1
    rw [seen_p hil (by unfold eff1; rw [hp, Bool.false_and])]
    refine ND.yes (by (simp only [zLm, zLa, zLr, zLc, zLn, zLt, zLd]; omega)) ?_
    refine NP.mk (by omega) ?_
    refine NG.mapN (by omega) ?_
    refine NCall.call (h1) rfl rfl ?_
    exact NRet.mk [] rfl ⟨.refl _, rfl⟩
   | true =>
    rw [hp] at h1
    have hone : (l[i].drops.all fun x => !ownBad node seq l[i] x) = true → eff1 node seq l[i] = true := fun h => by
     unfold eff1; rw [hp, Bool.true_and, ownOk_any, List.not_any_eq_all_not]; exact h
    have hzero : (l[i].drops.all fun x => !ownBad node seq l[i] x) = false → eff1 node seq l[i] = false := fun h => by
     unfold eff1; rw [hp, Bool.true_and, ownOk_any, List.not_any_eq_all_not]; exact h
    cases i with
    | zero =>
     refine ND.yes (by (simp only [zLm, zLa, zLr, zLc, zLn, zLt, zLd]; omega)) ?_
     refine NP.mk (by omega) ?_
     refine NG.mapN (by omega) ?_
     refine NCall.call (h1) rfl rfl ?_
     refine NP.mk (by kernel_rfl) ?_
     refine NDr.w _ ?_
     apply NDr.pure
     ·refine ND.no (by omega) ?_
      exact ⟨rfl, rfl⟩
     refine NDr.w _ ?_
     refine NDr.w _ ?_
     refine NP.mk (by kernel_rfl) ?_
     refine NLoop.mk [] [0, 1, 2, 7, 8] (fun m vs H => ∃ k', k' ≤ l[0].drops.length ∧ m = l[0].drops.length - k' ∧ (∀ x ∈ l[0].drops.take k', (!ownBad node seq l[0] x) = true) ∧ H = [] ∧ vs = [i64 node, i64 seq, effsA l, i64 ((0 : Nat) : Int), i64 k']) rfl ?_ ?_
     ·exact Canon.mk [] rfl ⟨l[0].drops.length, 0, Nat.zero_le _, rfl, by simp, rfl, rfl⟩
     ·rintro m vs H ⟨k', hk', rfl, htk, rfl, rfl⟩
      by_cases hkl : k' < l[0].drops.length
      ·obtain ⟨g1, g2⟩ := all_step (p := fun x => !ownBad node seq l[0] x) hkl htk
       cases hb : ownBad node seq l[0] l[0].drops[k'] with
       | true =>
        rw [seen_p hil (hzero (g1 (by rw [hb]; rfl)))]
        have hb' := hb
        unfold ownBad at hb'
        rw [decide_eq_true_eq] at hb'
        refine NP.mk (by omega) ?_
        refine NG.mapN (by omega) ?_
        refine ND.yes (by (simp only [zLm, zLa, zLr, zLc, zLn, zLt, zLd]; omega)) ?_
        refine NP.mk (by omega) ?_
        refine NG.mapN (by omega) ?_
        refine NP.mk (by omega) ?_
        refine NG.mapN (by omega) ?_
        refine NP.mk (by kernel_rfl) ?_
        apply NDr.rd [0]
        ·intro fH TH
         exact ⟨rfl, rfl⟩
        apply NDr.rd [0]
        ·intro fH TH
         exact ⟨rfl, rfl⟩
        refine NDr.w _ ?_
        apply NDr.pure
        ·refine ND.yes (by omega) ?_
         exact ⟨rfl, rfl⟩
        refine NDr.w _ ?_
        apply NDr.rd [0]
        ·intro fH TH
         exact ⟨rfl, rfl⟩
        apply NDr.rd [0]
        ·intro fH TH
         exact ⟨rfl, rfl⟩
        refine NDr.w _ ?_
        apply NDr.pure
        ·refine ND.yes (by omega) ?_
         exact ⟨rfl, rfl⟩
        refine NDr.w _ ?_
        refine NDr.w _ ?_
        apply NDr.rd [0]
        ·intro fH TH
         exact ⟨rfl, rfl⟩
        apply NDr.rd [0]
        ·intro fH TH
         exact ⟨rfl, rfl⟩
        refine NDr.w _ ?_
        refine NDr.w _ ?_
        apply NDr.pure
        ·refine NP.mk (by omega) ?_
         refine NG.mapN (by omega) ?_
         exact ⟨rfl, rfl⟩
        refine NDr.w _ ?_
        refine NDr.w _ ?_
        apply NDr.pure
        ·refine ND.yes (by omega) ?_
         exact ⟨rfl, rfl⟩
        refine NDr.w _ ?_
        refine NP.mk (by kernel_rfl) ?_
        exact NRet.mk [] rfl ⟨.refl _, rfl⟩
       | false =>
        have hb' := hb
        unfold ownBad at hb'
        rw [decide_eq_false_iff_not] at hb'
        have fin : ∃ m', m' < l[0].drops.length - k' ∧ ∃ k'', k'' ≤ l[0].drops.length ∧ m' = l[0].drops.length - k'' ∧ (∀ x ∈ l[0].drops.take k'', (!ownBad node seq l[0] x) = true) ∧ ([] : List Blk) = [] ∧ [i64 node, i64 seq, effsA l, i64 ((0 : Nat) : Int), i64 ((k' + 1 : Nat) : Int)] = [i64 node, i64 seq, effsA l, i64 ((0 : Nat) : Int), i64 k''] :=
         ⟨l[0].drops.length - (k' + 1), by omega, k' + 1, by omega, rfl, g2 (by rw [hb]; rfl), rfl, rfl⟩
        refine NP.mk (by omega) ?_
        refine NG.mapN (by omega) ?_
        refine ND.yes (by (simp only [zLm, zLa, zLr, zLc, zLn, zLt, zLd]; omega)) ?_
        refine NP.mk (by omega) ?_
        refine NG.mapN (by omega) ?_
        refine NP.mk (by omega) ?_
        refine NG.mapN (by omega) ?_
        refine NP.mk (by kernel_rfl) ?_
        apply NDr.rd [0]
        ·intro fH TH
         exact ⟨rfl, rfl⟩
        apply NDr.rd [0]
        ·intro fH TH
         exact ⟨rfl, rfl⟩
        refine NDr.w _ ?_
        apply NDr.pure
        ·exact NB.det
        refine NDr.w _ ?_
        refine NB.mk (fun hk3 => ?_) (fun hk3 => ?_)
        ·apply NDr.rd [0]
         ·intro fH TH
          exact ⟨rfl, rfl⟩
         refine NB.yes (by simp [*]) ?_
         apply NDr.rd [0]
         ·intro fH TH
          exact ⟨rfl, rfl⟩
         refine NB.yes (by simp [*]) ?_
         refine NDr.w _ ?_
         refine NB.yes (by simp [*]) ?_
         apply NDr.pure
         ·exact NB.det
         apply NDr.pure
         ·refine NB.yes (by simp [*]) ?_
          exact ⟨rfl, rfl⟩
         refine NDr.w _ ?_
         refine NB.mk (fun hk9 => ?_) (fun hk9 => ?_)
         ·apply NDr.rd [0]
          ·intro fH TH
           exact ⟨rfl, rfl⟩
          refine NB.yes (by simp [*]) ?_
          apply NDr.rd [0]
          ·intro fH TH
           exact ⟨rfl, rfl⟩
          refine NB.yes (by simp [*]) ?_
          refine NDr.w _ ?_
          refine NB.yes (by simp [*]) ?_
          refine NDr.w _ ?_
          refine NB.yes (by simp [*]) ?_
          apply NDr.pure
          ·refine NP.mk (by omega) ?_
           refine NG.mapN (by omega) ?_
           exact ⟨rfl, rfl⟩
          refine NB.yes (by simp [*]) ?_
          refine NDr.w _ ?_
          refine NB.yes (by simp [*]) ?_
          refine NDr.w _ ?_
          refine NB.yes (by simp [*]) ?_
          apply NDr.pure
          ·exact NB.det
          apply NDr.pure
          ·refine NB.yes (by simp [*]) ?_
           exact ⟨rfl, rfl⟩
          refine NP.mk (by kernel_rfl) ?_
          refine NB.mk (fun hk19 => ?_) (fun hk19 => ?_)
          ·refine NRet.boolE (b := false) ?_ (NRet.mk [] rfl ⟨.refl _, rfl⟩)
           grind
          refine NW.w ?_
          exact (Canon.mk [] rfl fin)
         refine NB.no (by simp [*]) ?_
         refine NB.no (by simp [*]) ?_
         refine NB.no (by simp [*]) ?_
         refine NB.no (by simp [*]) ?_
         refine NB.no (by simp [*]) ?_
         refine NB.no (by simp [*]) ?_
         refine NB.no (by simp [*]) ?_
         apply NDr.pure
         ·refine NB.no (by simp [*]) ?_
          exact ⟨rfl, rfl⟩
         refine NP.mk (by kernel_rfl) ?_
         refine NW.w ?_
         exact (Canon.mk [] rfl fin)
        refine NB.no (by simp [*]) ?_
        refine NB.no (by simp [*]) ?_
        refine NB.no (by simp [*]) ?_
        apply NDr.pure
        ·refine NB.no (by simp [*]) ?_
         exact ⟨rfl, rfl⟩
        refine NDr.w _ ?_
        refine NDr.w _ ?_
        refine NP.mk (by kernel_rfl) ?_
        refine NW.w ?_
        exact (Canon.mk [] rfl fin)
      ·have : k' = l[0].drops.length := by omega
       have htk := all_end (p := fun x => !ownBad node seq l[0] x) (this ▸ htk)
       refine NP.mk (by omega) ?_
       refine NG.mapN (by omega) ?_
       refine ND.no (by (simp only [zLm, zLa, zLr, zLc, zLn, zLt, zLd]; omega)) ?_
       refine NW.w ?_
       exact Canon.mk [] rfl ⟨l.length - (0 + 1), by omega, 0 + 1, by omega, rfl, seen_zero hil (hone htk), rfl, rfl⟩
    | succ k =>
     have ek : Int.toNat (((k + 1 : Nat) : Int) - 1) = k := by omega
     cases hr : atLt l[k] l[k + 1] with
     | false =>
      have hr' := hr
      unfold atLt at hr'
      rw [decide_eq_false_iff_not] at hr'
      rw [seen_r hil hr]
      refine ND.yes (by (simp only [zLm, zLa, zLr, zLc, zLn, zLt, zLd]; omega)) ?_
      refine NP.mk (by omega) ?_
      refine NG.mapN (by omega) ?_
      refine NCall.call (h1) rfl rfl ?_
      refine NP.mk (by kernel_rfl) ?_
      refine NDr.w _ ?_
      apply NDr.pure
      ·refine ND.yes (by omega) ?_
       exact ⟨rfl, rfl⟩
      refine NDr.w _ ?_
      refine NDr.w _ ?_
      refine NDr.w _ ?_
      apply NDr.pure
      ·refine NP.mk (by omega) ?_
       refine NG.mapN (by omega) ?_
       exact ⟨rfl, rfl⟩
      refine NDr.w _ ?_
      refine NDr.w _ ?_
      refine NDr.w _ ?_
      refine NDr.w _ ?_
      apply NDr.pure
      ·refine NW.w ?_
       exact ⟨rfl, rfl⟩
      apply NDr.pure
      ·refine NP.mk (by omega) ?_
       rw [(ek)]
       refine NG.mapN (by omega) ?_
       exact ⟨rfl, rfl⟩
      refine NDr.w _ ?_
      refine NDr.w _ ?_
      apply NDr.pure
      ·refine ND.yes (by omega) ?_
       exact ⟨rfl, rfl⟩
      refine NDr.w _ ?_
      refine NP.mk (by kernel_rfl) ?_
      exact NRet.mk [] rfl ⟨.refl _, rfl⟩
     | true =>
      have hr' := hr
      unfold atLt at hr'
      rw [decide_eq_true_eq] at hr'
      refine ND.yes (by (simp only [zLm, zLa, zLr, zLc, zLn, zLt, zLd]; omega)) ?_
      refine NP.mk (by omega) ?_
      refine NG.mapN (by omega) ?_
      refine NCall.call (h1) rfl rfl ?_
      refine NP.mk (by kernel_rfl) ?_
      refine NDr.w _ ?_
      apply NDr.pure
      ·refine ND.yes (by omega) ?_
       exact ⟨rfl, rfl⟩
      refine NDr.w _ ?_
      refine NDr.w _ ?_
      refine NDr.w _ ?_
      apply NDr.pure
      ·refine NP.mk (by omega) ?_
       refine NG.mapN (by omega) ?_
       exact ⟨rfl, rfl⟩
      refine NDr.w _ ?_
      refine NDr.w _ ?_
      refine NDr.w _ ?_
      refine NDr.w _ ?_
      apply NDr.pure
      ·refine NW.w ?_
       exact ⟨rfl, rfl⟩
      apply NDr.pure
      ·refine NP.mk (by omega) ?_
       rw [(ek)]
       refine NG.mapN (by omega) ?_
       exact ⟨rfl, rfl⟩
      refine NDr.w _ ?_
      refine NDr.w _ ?_
      apply NDr.pure
      ·refine ND.no (by omega) ?_
       exact ⟨rfl, rfl⟩
      refine NDr.w _ ?_
      refine NP.mk (by kernel_rfl) ?_
      refine NLoop.mk [] [0, 1, 2, 7, 8] (fun m vs H => ∃ k', k' ≤ l[k + 1].drops.length ∧ m = l[k + 1].drops.length - k' ∧ (∀ x ∈ l[k + 1].drops.take k', (!ownBad node seq l[k + 1] x) = true) ∧ H = [] ∧ vs = [i64 node, i64 seq, effsA l, i64 ((k + 1 : Nat) : Int), i64 k']) rfl ?_ ?_
      ·exact Canon.mk [] rfl ⟨l[k + 1].drops.length, 0, Nat.zero_le _, rfl, by simp, rfl, rfl⟩
      ·rintro m vs H ⟨k', hk', rfl, htk, rfl, rfl⟩
       by_cases hkl : k' < l[k + 1].drops.length
       ·obtain ⟨g1, g2⟩ := all_step (p := fun x => !ownBad node seq l[k + 1] x) hkl htk
        cases hb : ownBad node seq l[k + 1] l[k + 1].drops[k'] with
        | true =>
         rw [seen_p hil (hzero (g1 (by rw [hb]; rfl)))]
         have hb' := hb
         unfold ownBad at hb'
         rw [decide_eq_true_eq] at hb'
         refine NP.mk (by omega) ?_
         refine NG.mapN (by omega) ?_
         refine ND.yes (by (simp only [zLm, zLa, zLr, zLc, zLn, zLt, zLd]; omega)) ?_
         refine NP.mk (by omega) ?_
         refine NG.mapN (by omega) ?_
         refine NP.mk (by omega) ?_
         refine NG.mapN (by omega) ?_
         refine NP.mk (by kernel_rfl) ?_
         apply NDr.rd [0]
         ·intro fH TH
          exact ⟨rfl, rfl⟩
         apply NDr.rd [0]
         ·intro fH TH
          exact ⟨rfl, rfl⟩
         refine NDr.w _ ?_
         apply NDr.pure
         ·refine ND.yes (by omega) ?_
          exact ⟨rfl, rfl⟩
         refine NDr.w _ ?_
         apply NDr.rd [0]
         ·intro fH TH
          exact ⟨rfl, rfl⟩
         apply NDr.rd [0]
         ·intro fH TH
          exact ⟨rfl, rfl⟩
         refine NDr.w _ ?_
         apply NDr.pure
         ·refine ND.yes (by omega) ?_
          exact ⟨rfl, rfl⟩
         refine NDr.w _ ?_
         refine NDr.w _ ?_
         apply NDr.rd [0]
         ·intro fH TH
          exact ⟨rfl, rfl⟩
         apply NDr.rd [0]
         ·intro fH TH
          exact ⟨rfl, rfl⟩
         refine NDr.w _ ?_
         refine NDr.w _ ?_
         apply NDr.pure
         ·refine NP.mk (by omega) ?_
          refine NG.mapN (by omega) ?_
          exact ⟨rfl, rfl⟩
         refine NDr.w _ ?_
         refine NDr.w _ ?_
         apply NDr.pure
         ·refine ND.yes (by omega) ?_
          exact ⟨rfl, rfl⟩
         refine NDr.w _ ?_
         refine NP.mk (by kernel_rfl) ?_
         exact NRet.mk [] rfl ⟨.refl _, rfl⟩
        | false =>
         have hb' := hb
         unfold ownBad at hb'
         rw [decide_eq_false_iff_not] at hb'
         have fin : ∃ m', m' < l[k + 1].drops.length - k' ∧ ∃ k'', k'' ≤ l[k + 1].drops.length ∧ m' = l[k + 1].drops.length - k'' ∧ (∀ x ∈ l[k + 1].drops.take k'', (!ownBad node seq l[k + 1] x) = true) ∧ ([] : List Blk) = [] ∧ [i64 node, i64 seq, effsA l, i64 ((k + 1 : Nat) : Int), i64 ((k' + 1 : Nat) : Int)] = [i64 node, i64 seq, effsA l, i64 ((k + 1 : Nat) : Int), i64 k''] :=
          ⟨l[k + 1].drops.length - (k' + 1), by omega, k' + 1, by omega, rfl, g2 (by rw [hb]; rfl), rfl, rfl⟩
         refine NP.mk (by omega) ?_
         refine NG.mapN (by omega) ?_
         refine ND.yes (by (simp only [zLm, zLa, zLr, zLc, zLn, zLt, zLd]; omega)) ?_
         refine NP.mk (by omega) ?_
         refine NG.mapN (by omega) ?_
         refine NP.mk (by omega) ?_
         refine NG.mapN (by omega) ?_
         refine NP.mk (by kernel_rfl) ?_
         apply NDr.rd [0]
         ·intro fH TH
          exact ⟨rfl, rfl⟩
         apply NDr.rd [0]
         ·intro fH TH
          exact ⟨rfl, rfl⟩
         refine NDr.w _ ?_
         apply NDr.pure
         ·exact NB.det
         refine NDr.w _ ?_
         refine NB.mk (fun hk3 => ?_) (fun hk3 => ?_)
         ·apply NDr.rd [0]
          ·intro fH TH
           exact ⟨rfl, rfl⟩
          refine NB.yes (by simp [*]) ?_
          apply NDr.rd [0]
          ·intro fH TH
           exact ⟨rfl, rfl⟩
          refine NB.yes (by simp [*]) ?_
          refine NDr.w _ ?_
          refine NB.yes (by simp [*]) ?_
          apply NDr.pure
          ·exact NB.det
          apply NDr.pure
          ·refine NB.yes (by simp [*]) ?_
           exact ⟨rfl, rfl⟩
          refine NDr.w _ ?_
          refine NB.mk (fun hk9 => ?_) (fun hk9 => ?_)
          ·apply NDr.rd [0]
           ·intro fH TH
            exact ⟨rfl, rfl⟩
           refine NB.yes (by simp [*]) ?_
           apply NDr.rd [0]
           ·intro fH TH
            exact ⟨rfl, rfl⟩
           refine NB.yes (by simp [*]) ?_
           refine NDr.w _ ?_
           refine NB.yes (by simp [*]) ?_
           refine NDr.w _ ?_
           refine NB.yes (by simp [*]) ?_
           apply NDr.pure
           ·refine NP.mk (by omega) ?_
            refine NG.mapN (by omega) ?_
            exact ⟨rfl, rfl⟩
           refine NB.yes (by simp [*]) ?_
           refine NDr.w _ ?_
           refine NB.yes (by simp [*]) ?_
           refine NDr.w _ ?_
           refine NB.yes (by simp [*]) ?_
           apply NDr.pure
           ·exact NB.det
           apply NDr.pure
           ·refine NB.yes (by simp [*]) ?_
            exact ⟨rfl, rfl⟩
           refine NP.mk (by kernel_rfl) ?_
           refine NB.mk (fun hk19 => ?_) (fun hk19 => ?_)
           ·refine NRet.boolE (b := false) ?_ (NRet.mk [] rfl ⟨.refl _, rfl⟩)
            grind
           refine NW.w ?_
           exact (Canon.mk [] rfl fin)
          refine NB.no (by simp [*]) ?_
          refine NB.no (by simp [*]) ?_
          refine NB.no (by simp [*]) ?_
          refine NB.no (by simp [*]) ?_
          refine NB.no (by simp [*]) ?_
          refine NB.no (by simp [*]) ?_
          refine NB.no (by simp [*]) ?_
          apply NDr.pure
          ·refine NB.no (by simp [*]) ?_
           exact ⟨rfl, rfl⟩
          refine NP.mk (by kernel_rfl) ?_
          refine NW.w ?_
          exact (Canon.mk [] rfl fin)
         refine NB.no (by simp [*]) ?_
         refine NB.no (by simp [*]) ?_
         refine NB.no (by simp [*]) ?_
         apply NDr.pure
         ·refine NB.no (by simp [*]) ?_
          exact ⟨rfl, rfl⟩
         refine NDr.w _ ?_
         refine NDr.w _ ?_
         refine NP.mk (by kernel_rfl) ?_
         refine NW.w ?_
         exact (Canon.mk [] rfl fin)
       ·have : k' = l[k + 1].drops.length := by omega
        have htk := all_end (p := fun x => !ownBad node seq l[k + 1] x) (this ▸ htk)
        refine NP.mk (by omega) ?_
        refine NG.mapN (by omega) ?_
        refine ND.no (by (simp only [zLm, zLa, zLr, zLc, zLn, zLt, zLd]; omega)) ?_
        refine NW.w ?_
        exact Canon.mk [] rfl ⟨l.length - (k + 1 + 1), by omega, k + 1 + 1, by omega, rfl, seen_succ hil hs (hone htk) hr, rfl, rfl⟩
  ·have : i = l.length := by omega
   subst this
   rw [seen_end hs]
   refine ND.no (by (simp only [zLm, zLa, zLr, zLc, zLn, zLt, zLd]; omega)) ?_
   exact NRet.mk [] rfl ⟨.refl _, rfl⟩
theorem rightF_walk (node seq : Int) (e : Eff) (d : Dot) : ACalls Tryz.prog Nm.eff_Right_1 [dotA d, .ptr 0 0 0, .ptr 1 0 0, .ptr 2 0 0] [.row .box .leaf [i64 node], .row .box .leaf [i64 seq], .row .box (.agg 7) [effA e]] (.bool (ownBad node seq e d)) [.row .box .leaf [i64 node], .row .box .leaf [i64 seq], .row .box (.agg 7) [effA e]] := by
 refine ACalls_of tab (dr_snd tab mixed) Nm.eff_Right_1_h rfl (by kernel_rfl) (Nat.le_of_ble_eq_true rfl) rfl ?_
 rw [ownBad]
 refine NB.dec (fun hk1 => ?_) (fun hk1 => ?_)
 ·refine NB.dec (fun hk2 => ?_) (fun hk2 => ?_)
  ·refine NB.dec (fun hk3 => ?_) (fun hk3 => ?_)
   ·refine NRet.boolE (b := true) ?_ (NRet.mk [] rfl ⟨.refl _, rfl⟩)
    (simp only [decide_eq_true_eq, decide_eq_false_iff_not, eq_comm (a := true), eq_comm (a := false)]; omega)
   refine NRet.boolE (b := false) ?_ (NRet.mk [] rfl ⟨.refl _, rfl⟩)
   (simp only [decide_eq_true_eq, decide_eq_false_iff_not, eq_comm (a := true), eq_comm (a := false)]; omega)
  refine NRet.boolE (b := false) ?_ (NRet.mk [] rfl ⟨.refl _, rfl⟩)
  (simp only [decide_eq_true_eq, decide_eq_false_iff_not, eq_comm (a := true), eq_comm (a := false)]; omega)
 refine NRet.boolE (b := false) ?_ (NRet.mk [] rfl ⟨.refl _, rfl⟩)
 (simp only [decide_eq_true_eq, decide_eq_false_iff_not, eq_comm (a := true), eq_comm (a := false)]; omega)
def H3 (node seq : Int) (e : Eff) : List Blk := [.row .box .leaf [i64 node], .row .box .leaf [i64 seq], .row .box (.agg 7) [effA e]]
/-- slices.IndexFunc of dots; the function looks into three boxes. -/
theorem indexD_walk (g : Nat) (node seq : Int) (e : Eff) (l : List Dot) (p : Dot → Bool) (hl : l.length ≤ 2 ^ 40) (hg : ∀ d ∈ l, ACalls Tryz.prog g [dotA d, .ptr 0 0 0, .ptr 1 0 0, .ptr 2 0 0] (H3 node seq e) (.bool (p d)) (H3 node seq e)) :
  ACalls Tryz.prog Nm.slices_IndexFunc_api_Dot_api_Dot [dotsA l, .fn g [.ptr 0 0 0, .ptr 1 0 0, .ptr 2 0 0]] (H3 node seq e) (i64 (ixI p l)) (H3 node seq e) := by
 unfold H3 at *
 refine ACalls_of tab (dr_snd tab mixed) Nm.slices_IndexFunc_api_Dot_api_Dot_h rfl (by kernel_rfl) (Nat.le_of_ble_eq_true rfl) rfl ?_
 refine NLoop.mk [] [0, 1, 6, 7, 8] (fun m vs H => ∃ i, i ≤ l.length ∧ m = l.length - i ∧ (∀ x ∈ l.take i, p x = false) ∧ H = [.row .box .leaf [i64 node], .row .box .leaf [i64 seq], .row .box (.agg 7) [effA e]] ∧ vs = [dotsA l, .fn g [.ptr 0 0 0, .ptr 1 0 0, .ptr 2 0 0], dotsA l, i64 l.length, i64 i]) rfl ?_ ?_
 ·exact Canon.mk [] rfl ⟨l.length, 0, Nat.zero_le _, rfl, by simp, rfl, by simp [dotsA, i64]⟩
 ·rintro m vs H ⟨i, hi, rfl, ht, rfl, rfl⟩
  by_cases hil : i < l.length
  ·have hc := hg _ (List.getElem_mem hil)
   obtain ⟨f1, f2⟩ := find_step hil ht
   cases hp : p l[i] with
   | true =>
    rw [hp] at hc
    rw [f1 hp]
    refine ND.yes (by omega) ?_
    refine NP.mk (by omega) ?_
    refine NG.mapN (by omega) ?_
    refine NCall.atA (hc) ?_
    exact NRet.mk [] rfl ⟨.refl _, rfl⟩
   | false =>
    rw [hp] at hc
    refine ND.yes (by omega) ?_
    refine NP.mk (by omega) ?_
    refine NG.mapN (by omega) ?_
    refine NCall.atA (hc) ?_
    refine NW.w ?_
    exact Canon.mk [] rfl ⟨l.length - (i + 1), by omega, i + 1, by omega, rfl, f2 hp, rfl, rfl⟩
  ·have : i = l.length := by omega
   subst this
   rw [List.take_length] at ht
   rw [find_none ht]
   refine ND.no (by omega) ?_
   exact NRet.mk [] rfl ⟨.refl _, rfl⟩
theorem containsD_walk (g : Nat) (node seq : Int) (e : Eff) (l : List Dot) (p : Dot → Bool) (hl : l.length ≤ 2 ^ 40) (hg : ∀ d ∈ l, ACalls Tryz.prog g [dotA d, .ptr 0 0 0, .ptr 1 0 0, .ptr 2 0 0] (H3 node seq e) (.bool (p d)) (H3 node seq e)) :
  ACalls Tryz.prog Nm.slices_ContainsFunc_api_Dot_api_Dot [dotsA l, .fn g [.ptr 0 0 0, .ptr 1 0 0, .ptr 2 0 0]] (H3 node seq e) (.bool (l.any p)) (H3 node seq e) := by
 have hi := indexD_walk g node seq e l p hl hg
 unfold H3 at *
 refine ACalls_of tab (dr_snd tab mixed) Nm.slices_ContainsFunc_api_Dot_api_Dot_h rfl (by kernel_rfl) (Nat.le_of_ble_eq_true rfl) rfl ?_
 rw [ixI_any]
 by_cases h : 0 ≤ ixI p l
 ·rw [decide_eq_true h]
  refine NCall.atA (hi) ?_
  refine ND.yes (by omega) ?_
  exact NRet.mk [] rfl ⟨.refl _, rfl⟩
 ·rw [decide_eq_false h]
  refine NCall.atA (hi) ?_
  refine ND.no (by omega) ?_
  exact NRet.mk [] rfl ⟨.refl _, rfl⟩
theorem right_walk (node seq : Int) (l : List Eff) (hl : l.length ≤ 2 ^ 40) (hx : ∀ e ∈ l, smEff e) : ACalls Tryz.prog Nm.eff_Right [i64 node, i64 seq, effsA l] [] (.bool (effsOk node seq l)) [] := by
 refine ACalls_of tab (dr_snd tab mixed) Nm.eff_Right_h rfl (by kernel_rfl) (Nat.le_of_ble_eq_true rfl) rfl ?_
 have e0 : effsOk node seq l = (l.all (eff1 node seq) && adj atLt l) := rfl
 rw [e0]
 refine NLoop.mk [] [2, 3, 4, 9, 10, 11] (fun m vs H => ∃ i, i ≤ l.length ∧ m = l.length - i ∧ Seen (eff1 node seq) atLt l i ∧ H = [.row .box .leaf [i64 node], .row .box .leaf [i64 seq]] ∧ vs = [effsA l, .ptr 0 0 0, .ptr 1 0 0, effsA l, i64 l.length, i64 i]) rfl ?_ ?_
 ·exact Canon.mk [0, 1] rfl ⟨l.length, 0, Nat.zero_le _, rfl, seen0 _ _ _, rfl, by simp [effsA, i64]⟩
 ·rintro m vs H ⟨i, hi, rfl, hs, rfl, rfl⟩
  by_cases hil : i < l.length
  ·have hxi := hx _ (List.getElem_mem hil)
   have h1 := effFormed_walk node seq l[i] hxi
   have h64 := hxi.2.2.2
   cases hp : effOk node seq l[i] with
   | false =>
    rw [hp] at h1
    rw [seen_p hil (by unfold eff1; rw [hp, Bool.false_and])]
    refine ND.yes (by omega) ?_
    refine NP.mk (by omega) ?_
    refine NG.mapN (by omega) ?_
    refine NP.mk (by kernel_rfl) ?_
    apply NDr.rd [0]
    ·intro fH TH
     exact ⟨rfl, rfl⟩
    apply NDr.rd [1]
    ·intro fH TH
     exact ⟨rfl, rfl⟩
    apply NDr.rd [2]
    ·intro fH TH
     exact ⟨rfl, rfl⟩
    apply NDr.pure
    ·refine NCall.call (h1) rfl rfl ?_
     exact ⟨rfl, rfl⟩
    refine NDr.w _ ?_
    refine NDr.w _ ?_
    refine NDr.w _ ?_
    refine NP.mk (by kernel_rfl) ?_
    exact NRet.mk [] rfl ⟨.refl _, rfl⟩
   | true =>
    rw [hp] at h1
    have h2 := containsD_walk Nm.eff_Right_1 node seq l[i] l[i].drops (ownBad node seq l[i]) h64 (fun d _ => rightF_walk node seq l[i] d)
    unfold H3 at h2
    cases hb : l[i].drops.any (ownBad node seq l[i]) with
    | true =>
     rw [hb] at h2
     have e1 : eff1 node seq l[i] = false := by unfold eff1; rw [hp, Bool.true_and, ownOk_any, hb]; rfl
     rw [seen_p hil e1]
     cases i with
     | zero =>
       refine ND.yes (by omega) ?_
       refine NP.mk (by omega) ?_
       refine NG.mapN (by omega) ?_
       refine NP.mk (by kernel_rfl) ?_
       apply NDr.rd [0]
       ·intro fH TH
        exact ⟨rfl, rfl⟩
       apply NDr.rd [1]
       ·intro fH TH
        exact ⟨rfl, rfl⟩
       apply NDr.rd [2]
       ·intro fH TH
        exact ⟨rfl, rfl⟩
       apply NDr.pure
       ·refine NCall.call (h1) rfl rfl ?_
        exact ⟨rfl, rfl⟩
       refine NDr.w _ ?_
       refine NDr.w _ ?_
       refine NDr.w _ ?_
       apply NDr.pure
       ·refine ND.no (by omega) ?_
        exact ⟨rfl, rfl⟩
       refine NDr.w _ ?_
       refine NDr.w _ ?_
       refine NDr.w _ ?_
       refine NP.mk (by kernel_rfl) ?_
       refine NCall.atA (h2) ?_
       exact NRet.mk [] rfl ⟨.refl _, rfl⟩
     | succ k =>
      have ek : Int.toNat (((k + 1 : Nat) : Int) - 1) = k := by omega
      refine ND.yes (by omega) ?_
      refine NP.mk (by omega) ?_
      refine NG.mapN (by omega) ?_
      refine NP.mk (by kernel_rfl) ?_
      apply NDr.rd [0]
      ·intro fH TH
       exact ⟨rfl, rfl⟩
      apply NDr.rd [1]
      ·intro fH TH
       exact ⟨rfl, rfl⟩
      apply NDr.rd [2]
      ·intro fH TH
       exact ⟨rfl, rfl⟩
      apply NDr.pure
      ·refine NCall.call (h1) rfl rfl ?_
       exact ⟨rfl, rfl⟩
      refine NDr.w _ ?_
      refine NDr.w _ ?_
      refine NDr.w _ ?_
      apply NDr.pure
      ·refine ND.yes (by omega) ?_
       exact ⟨rfl, rfl⟩
      refine NDr.w _ ?_
      refine NDr.w _ ?_
      refine NDr.w _ ?_
      apply NDr.pure
      ·refine NW.w ?_
       exact ⟨rfl, rfl⟩
      apply NDr.pure
      ·refine NP.mk (by omega) ?_
       rw [(ek)]
       refine NG.mapN (by omega) ?_
       exact ⟨rfl, rfl⟩
      refine NDr.w _ ?_
      refine NDr.w _ ?_
      apply NDr.rd [2]
      ·intro fH TH
       exact ⟨rfl, rfl⟩
      apply NDr.rd [2]
      ·intro fH TH
       exact ⟨rfl, rfl⟩
      apply NDr.pure
      ·exact NB.det
      refine NDr.w _ ?_
      refine NDr.w _ ?_
      refine NP.mk (by kernel_rfl) ?_
      refine NB.mk (fun hk4 => ?_) (fun hk4 => ?_)
      ·exact NRet.mk [] rfl ⟨.refl _, rfl⟩
      refine NCall.atA (h2) ?_
      exact NRet.mk [] rfl ⟨.refl _, rfl⟩
    | false =>
     rw [hb] at h2
     have e1 : eff1 node seq l[i] = true := by unfold eff1; rw [hp, Bool.true_and, ownOk_any, hb]; rfl
     cases i with
     | zero =>
      refine ND.yes (by omega) ?_
      refine NP.mk (by omega) ?_
      refine NG.mapN (by omega) ?_
      refine NP.mk (by kernel_rfl) ?_
      apply NDr.rd [0]
      ·intro fH TH
       exact ⟨rfl, rfl⟩
      apply NDr.rd [1]
      ·intro fH TH
       exact ⟨rfl, rfl⟩
      apply NDr.rd [2]
      ·intro fH TH
       exact ⟨rfl, rfl⟩
      apply NDr.pure
      ·refine NCall.call (h1) rfl rfl ?_
       exact ⟨rfl, rfl⟩
      refine NDr.w _ ?_
      refine NDr.w _ ?_
      refine NDr.w _ ?_
      apply NDr.pure
      ·refine ND.no (by omega) ?_
       exact ⟨rfl, rfl⟩
      refine NDr.w _ ?_
      refine NDr.w _ ?_
      refine NDr.w _ ?_
      refine NP.mk (by kernel_rfl) ?_
      refine NCall.atA (h2) ?_
      refine NW.w ?_
      exact Canon.mk [0, 1] rfl ⟨l.length - (0 + 1), by omega, 0 + 1, by omega, rfl, seen_zero hil e1, rfl, rfl⟩
     | succ k =>
      have ek : Int.toNat (((k + 1 : Nat) : Int) - 1) = k := by omega
      cases hr : atLt l[k] l[k + 1] with
      | false =>
       have hr' := hr
       unfold atLt at hr'
       rw [decide_eq_false_iff_not] at hr'
       rw [seen_r hil hr]
       refine ND.yes (by omega) ?_
       refine NP.mk (by omega) ?_
       refine NG.mapN (by omega) ?_
       refine NP.mk (by kernel_rfl) ?_
       apply NDr.rd [0]
       ·intro fH TH
        exact ⟨rfl, rfl⟩
       apply NDr.rd [1]
       ·intro fH TH
        exact ⟨rfl, rfl⟩
       apply NDr.rd [2]
       ·intro fH TH
        exact ⟨rfl, rfl⟩
       apply NDr.pure
       ·refine NCall.call (h1) rfl rfl ?_
        exact ⟨rfl, rfl⟩
       refine NDr.w _ ?_
       refine NDr.w _ ?_
       refine NDr.w _ ?_
       apply NDr.pure
       ·refine ND.yes (by omega) ?_
        exact ⟨rfl, rfl⟩
       refine NDr.w _ ?_
       refine NDr.w _ ?_
       refine NDr.w _ ?_
       apply NDr.pure
       ·refine NW.w ?_
        exact ⟨rfl, rfl⟩
       apply NDr.pure
       ·refine NP.mk (by omega) ?_
        rw [(ek)]
        refine NG.mapN (by omega) ?_
        exact ⟨rfl, rfl⟩
       refine NDr.w _ ?_
       refine NDr.w _ ?_
       apply NDr.rd [2]
       ·intro fH TH
        exact ⟨rfl, rfl⟩
       apply NDr.rd [2]
       ·intro fH TH
        exact ⟨rfl, rfl⟩
       apply NDr.pure
       ·refine ND.yes (by omega) ?_
        exact ⟨rfl, rfl⟩
       refine NDr.w _ ?_
       refine NDr.w _ ?_
       refine NP.mk (by kernel_rfl) ?_
       exact NRet.mk [] rfl ⟨.refl _, rfl⟩
      | true =>
       have hr' := hr
       unfold atLt at hr'
       rw [decide_eq_true_eq] at hr'
       refine ND.yes (by omega) ?_
       refine NP.mk (by omega) ?_
       refine NG.mapN (by omega) ?_
       refine NP.mk (by kernel_rfl) ?_
       apply NDr.rd [0]
       ·intro fH TH
        exact ⟨rfl, rfl⟩
       apply NDr.rd [1]
       ·intro fH TH
        exact ⟨rfl, rfl⟩
       apply NDr.rd [2]
       ·intro fH TH
        exact ⟨rfl, rfl⟩
       apply NDr.pure
       ·refine NCall.call (h1) rfl rfl ?_
        exact ⟨rfl, rfl⟩
       refine NDr.w _ ?_
       refine NDr.w _ ?_
       refine NDr.w _ ?_
       apply NDr.pure
       ·refine ND.yes (by omega) ?_
        exact ⟨rfl, rfl⟩
       refine NDr.w _ ?_
       refine NDr.w _ ?_
       refine NDr.w _ ?_
       apply NDr.pure
       ·refine NW.w ?_
        exact ⟨rfl, rfl⟩
       apply NDr.pure
       ·refine NP.mk (by omega) ?_
        rw [(ek)]
        refine NG.mapN (by omega) ?_
        exact ⟨rfl, rfl⟩
       refine NDr.w _ ?_
       refine NDr.w _ ?_
       apply NDr.rd [2]
       ·intro fH TH
        exact ⟨rfl, rfl⟩
       apply NDr.rd [2]
       ·intro fH TH
        exact ⟨rfl, rfl⟩
       apply NDr.pure
       ·refine ND.no (by omega) ?_
        exact ⟨rfl, rfl⟩
       refine NDr.w _ ?_
       refine NDr.w _ ?_
       refine NP.mk (by kernel_rfl) ?_
       refine NCall.atA (h2) ?_
       refine NW.w ?_
       exact Canon.mk [0, 1] rfl ⟨l.length - (k + 1 + 1), by omega, k + 1 + 1, by omega, rfl, seen_succ hil hs e1 hr, rfl, rfl⟩
  ·have : i = l.length := by omega
   subst this
   rw [seen_end hs]
   refine ND.no (by omega) ?_
   exact NRet.mk [] rfl ⟨.refl _, rfl⟩
end Go.Bv
namespace Go.Bv
set_option linter.unusedSimpArgs false
set_option linter.unusedVariables false
set_option maxHeartbeats 4000000
set_option maxRecDepth 20000
open Go Go.Proofs
theorem bytesLess_lt : ∀ (x y : List UInt8), Op.bytesLess x y = decide (ltS x y)
 | x, [] => by cases x <;> simp [Op.bytesLess, ltS]
 | [], b :: y => by simp [Op.bytesLess, ltS]
 | a :: x, b :: y => by
  rw [Op.bytesLess, bytesLess_lt x y, Bool.eq_iff_iff]
  have e : ltS (a :: x) (b :: y) ↔ a < b ∨ a = b ∧ ltS x y := List.cons_lt_cons_iff
  simp only [Bool.or_eq_true, Bool.and_eq_true, decide_eq_true_eq, beq_iff_eq, e]
def cmpS (a b : List UInt8) : Int := if ltS a b then -1 else if ltS b a then 1 else 0
theorem isNaNS_walk (a : List UInt8) : ACalls Tryz.prog Nm.cmp_isNaN_string [.str a] [] (.bool false) [] := by
 refine ACalls_of tab (dr_snd tab mixed) Nm.cmp_isNaN_string_h rfl (by kernel_rfl) (Nat.le_of_ble_eq_true rfl) rfl ?_
 refine ND.yes (by rfl) ?_
 exact NRet.mk [] rfl ⟨.refl _, rfl⟩
theorem isNaN64_walk (a : Int) : ACalls Tryz.prog Nm.cmp_isNaN_int64 [i64 a] [] (.bool false) [] := by
 refine ACalls_of tab (dr_snd tab mixed) Nm.cmp_isNaN_int64_h rfl (by kernel_rfl) (Nat.le_of_ble_eq_true rfl) rfl ?_
 refine ND.yes (by omega) ?_
 exact NRet.mk [] rfl ⟨.refl _, rfl⟩
theorem compare64_walk (a b : Int) : ACalls Tryz.prog Nm.cmp_Compare_int64 [i64 a, i64 b] [] (i64 (cmpI a b)) [] := by
 refine ACalls_of tab (dr_snd tab mixed) Nm.cmp_Compare_int64_h rfl (by kernel_rfl) (Nat.le_of_ble_eq_true rfl) rfl ?_
 have h1 := isNaN64_walk a
 have h2 := isNaN64_walk b
 rw [cmpI]
 refine NCall.call (h1) rfl rfl ?_
 refine NCall.call (h2) rfl rfl ?_
 refine NB.dec (fun hk1 => ?_) (fun hk1 => ?_)
 ·refine NRet.intE ?_ (NRet.mk [] rfl ⟨.refl _, rfl⟩)
  omega
 refine NB.dec (fun hk2 => ?_) (fun hk2 => ?_)
 ·refine NRet.intE ?_ (NRet.mk [] rfl ⟨.refl _, rfl⟩)
  omega
 refine NRet.intE ?_ (NRet.mk [] rfl ⟨.refl _, rfl⟩)
 omega
theorem compareS_walk (a b : List UInt8) : ACalls Tryz.prog Nm.cmp_Compare_string [.str a, .str b] [] (i64 (cmpS a b)) [] := by
 refine ACalls_of tab (dr_snd tab mixed) Nm.cmp_Compare_string_h rfl (by kernel_rfl) (Nat.le_of_ble_eq_true rfl) rfl ?_
 have h1 := isNaNS_walk a
 have h2 := isNaNS_walk b
 rw [cmpS]
 by_cases h : ltS a b
 ·have e1 : Op.bytesLess a b = true := by rw [bytesLess_lt, decide_eq_true h]
  rw [if_pos h]
  refine NCall.call (h1) rfl rfl ?_
  refine NCall.call (h2) rfl rfl ?_
  refine ND.yes (by simp [*]) ?_
  exact NRet.mk [] rfl ⟨.refl _, rfl⟩
 ·have e1 : ¬ (Op.bytesLess a b = true) := by rw [bytesLess_lt, decide_eq_false h]; simp
  rw [if_neg h]
  by_cases k : ltS b a
  ·have hne : a ≠ b := fun e => ltS_irrefl b (by rw [e] at k; exact k)
   have e2 : ¬ ((Op.bytesLess a b || decide (a = b)) = true) := by rw [bytesLess_lt, decide_eq_false h, decide_eq_false hne]; simp
   rw [if_pos k]
   refine NCall.call (h1) rfl rfl ?_
   refine NCall.call (h2) rfl rfl ?_
   refine ND.no (by simp [*]) ?_
   refine ND.no (by simp [*]) ?_
   exact NRet.mk [] rfl ⟨.refl _, rfl⟩
  ·have he : a = b := by
    rcases ltS_tri a b with h' | h' | h'
    ·exact absurd h' h
    ·exact h'
    ·exact absurd h' k
   have e2 : (Op.bytesLess a b || decide (a = b)) = true := by rw [decide_eq_true he]; simp
   rw [if_neg k]
   refine NCall.call (h1) rfl rfl ?_
   refine NCall.call (h2) rfl rfl ?_
   refine ND.no (by assumption) ?_
   refine ND.yes (by simp [*]) ?_
   exact NRet.mk [] rfl ⟨.refl _, rfl⟩
def cmpIt (a b : Item) : Int := orI [cmpS a.key b.key, cmpS a.field b.field, cmpI a.kind b.kind, cmpI a.dot.node b.dot.node, cmpI a.dot.seq b.dot.seq, cmpI a.dot.at' b.dot.at', cmpS a.elem b.elem, cmpI a.n b.n]
theorem item_compare_walk (a b : Item) : ACalls Tryz.prog Nm.item_compare [itemA a, itemA b] [] (i64 (cmpIt a b)) [] := by
 refine ACalls_of tab (dr_snd tab mixed) Nm.item_compare_h rfl (by kernel_rfl) (Nat.le_of_ble_eq_true rfl) rfl ?_
 refine NP.mk (by kernel_rfl) ?_
 apply NDr.rd [0]
 ·intro fH TH
  exact ⟨rfl, rfl⟩
 apply NDr.rd [0]
 ·intro fH TH
  exact ⟨rfl, rfl⟩
 apply NDr.rd [1]
 ·intro fH TH
  exact ⟨rfl, rfl⟩
 apply NDr.rd [1]
 ·intro fH TH
  exact ⟨rfl, rfl⟩
 apply NDr.pure
 ·refine NCall.call (compareS_walk a.key b.key) rfl rfl ?_
  exact ⟨rfl, rfl⟩
 apply NDr.rd [0]
 ·intro fH TH
  exact ⟨rfl, rfl⟩
 apply NDr.rd [0]
 ·intro fH TH
  exact ⟨rfl, rfl⟩
 apply NDr.rd [1]
 ·intro fH TH
  exact ⟨rfl, rfl⟩
 apply NDr.rd [1]
 ·intro fH TH
  exact ⟨rfl, rfl⟩
 apply NDr.pure
 ·refine NCall.call (compareS_walk a.field b.field) rfl rfl ?_
  exact ⟨rfl, rfl⟩
 apply NDr.rd [0]
 ·intro fH TH
  exact ⟨rfl, rfl⟩
 apply NDr.rd [0]
 ·intro fH TH
  exact ⟨rfl, rfl⟩
 apply NDr.rd [1]
 ·intro fH TH
  exact ⟨rfl, rfl⟩
 apply NDr.rd [1]
 ·intro fH TH
  exact ⟨rfl, rfl⟩
 apply NDr.pure
 ·refine NCall.call (compare_walk a.kind b.kind) rfl rfl ?_
  exact ⟨rfl, rfl⟩
 apply NDr.rd [0]
 ·intro fH TH
  exact ⟨rfl, rfl⟩
 apply NDr.rd [0]
 ·intro fH TH
  exact ⟨rfl, rfl⟩
 apply NDr.rd [0]
 ·intro fH TH
  exact ⟨rfl, rfl⟩
 apply NDr.rd [1]
 ·intro fH TH
  exact ⟨rfl, rfl⟩
 apply NDr.rd [1]
 ·intro fH TH
  exact ⟨rfl, rfl⟩
 apply NDr.rd [1]
 ·intro fH TH
  exact ⟨rfl, rfl⟩
 apply NDr.pure
 ·refine NCall.call (compare_walk a.dot.node b.dot.node) rfl rfl ?_
  exact ⟨rfl, rfl⟩
 apply NDr.rd [0]
 ·intro fH TH
  exact ⟨rfl, rfl⟩
 apply NDr.rd [0]
 ·intro fH TH
  exact ⟨rfl, rfl⟩
 apply NDr.rd [0]
 ·intro fH TH
  exact ⟨rfl, rfl⟩
 apply NDr.rd [1]
 ·intro fH TH
  exact ⟨rfl, rfl⟩
 apply NDr.rd [1]
 ·intro fH TH
  exact ⟨rfl, rfl⟩
 apply NDr.rd [1]
 ·intro fH TH
  exact ⟨rfl, rfl⟩
 apply NDr.pure
 ·refine NCall.call (compare_walk a.dot.seq b.dot.seq) rfl rfl ?_
  exact ⟨rfl, rfl⟩
 apply NDr.rd [0]
 ·intro fH TH
  exact ⟨rfl, rfl⟩
 apply NDr.rd [0]
 ·intro fH TH
  exact ⟨rfl, rfl⟩
 apply NDr.rd [0]
 ·intro fH TH
  exact ⟨rfl, rfl⟩
 apply NDr.rd [1]
 ·intro fH TH
  exact ⟨rfl, rfl⟩
 apply NDr.rd [1]
 ·intro fH TH
  exact ⟨rfl, rfl⟩
 apply NDr.rd [1]
 ·intro fH TH
  exact ⟨rfl, rfl⟩
 apply NDr.pure
 ·refine NCall.call (compare_walk a.dot.at' b.dot.at') rfl rfl ?_
  exact ⟨rfl, rfl⟩
 apply NDr.rd [0]
 ·intro fH TH
  exact ⟨rfl, rfl⟩
 apply NDr.rd [0]
 ·intro fH TH
  exact ⟨rfl, rfl⟩
 apply NDr.rd [1]
 ·intro fH TH
  exact ⟨rfl, rfl⟩
 apply NDr.rd [1]
 ·intro fH TH
  exact ⟨rfl, rfl⟩
 apply NDr.pure
 ·refine NCall.call (compareS_walk a.elem b.elem) rfl rfl ?_
  exact ⟨rfl, rfl⟩
 apply NDr.rd [0]
 ·intro fH TH
  exact ⟨rfl, rfl⟩
 apply NDr.rd [0]
 ·intro fH TH
  exact ⟨rfl, rfl⟩
 apply NDr.rd [1]
 ·intro fH TH
  exact ⟨rfl, rfl⟩
 apply NDr.rd [1]
 ·intro fH TH
  exact ⟨rfl, rfl⟩
 apply NDr.pure
 ·refine NCall.call (compare64_walk a.n b.n) rfl rfl ?_
  exact ⟨rfl, rfl⟩
 refine NDr.w _ ?_
 apply NDr.pure
 ·refine NCall.call (or_walk [cmpS a.key b.key, cmpS a.field b.field, cmpI a.kind b.kind, cmpI a.dot.node b.dot.node, cmpI a.dot.seq b.dot.seq, cmpI a.dot.at' b.dot.at', cmpS a.elem b.elem, cmpI a.n b.n] (by simp)) rfl rfl ?_
  exact ⟨rfl, rfl⟩
 refine NDr.w _ ?_
 refine NP.mk (by kernel_rfl) ?_
 exact NRet.mk [] rfl ⟨.refl _, rfl⟩
theorem orI_lt (c : Int) (r : List Int) : orI (c :: r) < 0 ↔ c < 0 ∨ c = 0 ∧ orI r < 0 := by
 rw [orI_cons]
 split <;> omega
theorem cmpI_lt (a b : Int) : cmpI a b < 0 ↔ ltZ a b := by
 unfold cmpI ltZ
 split
 ·omega
 ·split <;> omega
theorem cmpI_eq (a b : Int) : cmpI a b = 0 ↔ a = b := by
 unfold cmpI
 split
 ·omega
 ·split <;> omega
theorem cmpS_lt (a b : List UInt8) : cmpS a b < 0 ↔ ltS a b := by
 unfold cmpS
 by_cases h : ltS a b
 ·simp [h]
 ·by_cases k : ltS b a <;> simp [h, k]
theorem cmpS_eq (a b : List UInt8) : cmpS a b = 0 ↔ a = b := by
 unfold cmpS
 by_cases h : ltS a b
 ·rw [if_pos h]
  exact ⟨fun h => by omega, fun e => by rw [e] at h; exact absurd h (ltS_irrefl b)⟩
 ·rw [if_neg h]
  by_cases k : ltS b a
  ·rw [if_pos k]
   exact ⟨fun h => by omega, fun e => by rw [e] at k; exact absurd k (ltS_irrefl b)⟩
  ·rw [if_neg k]
   refine ⟨fun _ => ?_, fun _ => rfl⟩
   rcases ltS_tri a b with h' | h' | h'
   ·exact absurd h' h
   ·exact h'
   ·exact absurd h' k
theorem cmpIt_lt (a b : Item) : cmpIt a b < 0 ↔ ILt a b := by
 unfold cmpIt
 simp only [orI_lt, cmpI_lt, cmpI_eq, cmpS_lt, cmpS_eq]
 unfold ILt lexR ltN
 simp [orI]
end Go.Bv
namespace Go.Bv
open Go Go.Proofs
theorem NG.map0N {α : Type} {f : α → AV} {l : List α} {j : Nat} {next : AV → Prop} (h : j < l.length) (hn : next (f l[j])) : NG (l.map f) (0 + Int.toNat (j : Int)) next := NG.mapE (Nat.zero_add j) h hn
end Go.Bv
namespace Go.Bv
set_option linter.unusedSimpArgs false
set_option linter.unusedVariables false
set_option maxHeartbeats 4000000
set_option maxRecDepth 20000
open Go Go.Proofs
open Go.Sort (swp insInner insOuter insertionSort)
theorem ltI_iff {x y : Item} : ltI x y = true ↔ cmpIt x y < 0 := by unfold ltI; rw [decide_eq_true_eq, cmpIt_lt]
theorem getA {l : List Item} {i : Nat} (h : i < l.length) : l.toArray[i]! = l[i] := by simp [h]
/-- Two places change. -/
def swpL (l : List Item) (i j : Nat) (hi : i < l.length) (hj : j < l.length) : List Item := (l.set i l[j]).set j l[i]
theorem swpL_len {l : List Item} {i j : Nat} (hi : i < l.length) (hj : j < l.length) : (swpL l i j hi hj).length = l.length := by simp [swpL]
theorem swpL_eq {l : List Item} {i j : Nat} (hi : i < l.length) (hj : j < l.length) : swp l.toArray i j = (swpL l i j hi hj).toArray := by
 unfold swp swpL
 rw [getA hi, getA hj]
 simp
theorem swpL_row {l : List Item} {i j : Nat} (hi : i < l.length) (hj : j < l.length) : ((l.map itemA).set i (itemA l[j])).set j (itemA l[i]) = (swpL l i j hi hj).map itemA := by
 unfold swpL
 rw [List.map_set, List.map_set]
theorem insInner_stop {a j : Nat} {d : Array Item} (h : ¬ a < j ∨ ∃ k, j = k + 1 ∧ ltI d[k + 1]! d[k]! = false) : insInner ltI a j d = d := by
 cases j with
 | zero => rfl
 | succ k =>
  rw [insInner, if_neg]
  rcases h with h | ⟨k', h1, h2⟩
  ·simp; omega
  ·obtain rfl : k' = k := by omega
   simp [h2]
theorem insInner_go {a k : Nat} {d : Array Item} (h : a < k + 1) (hl : ltI d[k + 1]! d[k]! = true) : insInner ltI a (k + 1) d = insInner ltI a k (swp d (k + 1) k) := by
 rw [insInner, if_pos (by simp [hl]; omega)]
theorem insertion_walk (l : List Item) (a b : Nat) (hb : b ≤ l.length) (ha : a ≤ l.length) (hl : l.length ≤ 2 ^ 40) : ACalls Tryz.prog Nm.slices_insertionSortCmpFunc_api_Item [.own 0 0 l.length, i64 a, i64 b, .fn Nm.item_compare []]
  [.row .vrow (.agg 8) (l.map itemA)] (.tup []) [.row .vrow (.agg 8) ((insertionSort ltI l.toArray a b).toList.map itemA)] := by
 refine ACalls_of tab (dr_snd tab mixed) Nm.slices_insertionSortCmpFunc_api_Item_h rfl (by kernel_rfl) (Nat.le_of_ble_eq_true rfl) rfl ?_
 refine NW.w ?_
 refine NLoop.mk [] [0, 1, 2, 3, 8] (fun m vs H => ∃ (i : Nat) (d : List Item), a + 1 ≤ i ∧ m = b - i ∧ d.length = l.length ∧ insOuter ltI a b i d.toArray = insertionSort ltI l.toArray a b ∧ H = [.row .vrow (.agg 8) (d.map itemA)] ∧
  vs = [.own 0 0 l.length, i64 a, i64 b, .fn Nm.item_compare [], i64 i]) rfl ?_ ?_
 ·exact Canon.mk [] rfl ⟨b - (a + 1), a + 1, l, by omega, rfl, rfl, rfl, rfl, rfl⟩
 rintro m vs H ⟨i, d, hai, rfl, hdl, he, rfl, rfl⟩
 by_cases hib : i < b
 ·refine ND.yes (by omega) ?_
  refine NLoop.mk [] [0, 1, 2, 3, 8, 9] (fun m vs H => ∃ (j : Nat) (e : List Item), j ≤ i ∧ j = m ∧ e.length = l.length ∧ insInner ltI a j e.toArray = insInner ltI a i d.toArray ∧ H = [.row .vrow (.agg 8) (e.map itemA)] ∧
   vs = [.own 0 0 l.length, i64 a, i64 b, .fn Nm.item_compare [], i64 i, i64 j]) rfl ?_ ?_
  ·exact Canon.mk [] rfl ⟨i, i, d, Nat.le_refl _, rfl, hdl, rfl, rfl, rfl⟩
  rintro m vs H ⟨j, e, hji, rfl, hel, hee, rfl, rfl⟩
  by_cases hja : a < j
  ·obtain ⟨k, rfl⟩ : ∃ k, j = k + 1 := ⟨j - 1, by omega⟩
   have h1 : k + 1 < e.length := by omega
   have h0 : k < e.length := by omega
   have hc := item_compare_walk e[k + 1] e[k]
   have ek : Int.toNat (((k + 1 : Nat) : Int) - 1) = k := by omega
   have g1 := getA h1
   have g0 := getA h0
   cases hlt : ltI e[k + 1] e[k] with
   | true =>
    have hlt' := ltI_iff.1 hlt
    refine NP.mk (by kernel_rfl) ?_
    refine NDr.w _ ?_
    refine NDr.w _ ?_
    apply NDr.pure
    ·refine ND.yes (by omega) ?_
     exact ⟨rfl, rfl⟩
    refine NDr.w _ ?_
    refine NDr.w _ ?_
    apply NDr.any
    ·intro H'
     exact ⟨rfl, rfl⟩
    refine NDr.w _ ?_
    apply NDr.rd [0]
    ·intro fH TH
     refine NP.mk (by (simp only [zLm, zLa, zLr, zLc, zLn, zLt, zLd]; omega)) ?_
     exact ⟨rfl, rfl⟩
    apply NDr.rd [0]
    ·intro fH TH
     refine NG.map0N (by omega) ?_
     exact ⟨rfl, rfl⟩
    apply NDr.any
    ·intro H'
     exact ⟨rfl, rfl⟩
    refine NDr.w _ ?_
    apply NDr.pure
    ·refine NW.w ?_
     exact ⟨rfl, rfl⟩
    apply NDr.rd [0]
    ·intro fH TH
     refine NP.mk (by (simp only [zLm, zLa, zLr, zLc, zLn, zLt, zLd]; omega)) ?_
     rw [(ek)]
     exact ⟨rfl, rfl⟩
    apply NDr.rd [0]
    ·intro fH TH
     refine NG.map0N (by omega) ?_
     exact ⟨rfl, rfl⟩
    apply NDr.pure
    ·refine NCall.call (hc) rfl rfl ?_
     exact ⟨rfl, rfl⟩
    apply NDr.pure
    ·refine ND.yes (by omega) ?_
     exact ⟨rfl, rfl⟩
    refine NDr.w _ ?_
    refine NP.mk (by kernel_rfl) ?_
    refine NP.mk (by kernel_rfl) ?_
    apply NDr.any
    ·intro H'
     exact ⟨rfl, rfl⟩
    refine NDr.w _ ?_
    apply NDr.any
    ·intro H'
     exact ⟨rfl, rfl⟩
    refine NDr.w _ ?_
    apply NDr.pure
    ·refine NW.w ?_
     exact ⟨rfl, rfl⟩
    apply NDr.any
    ·intro H'
     exact ⟨rfl, rfl⟩
    refine NDr.w _ ?_
    apply NDr.pure
    ·refine NW.w ?_
     exact ⟨rfl, rfl⟩
    apply NDr.rd [0]
    ·intro fH TH
     refine NP.mk (by (simp only [zLm, zLa, zLr, zLc, zLn, zLt, zLd]; omega)) ?_
     rw [(ek)]
     exact ⟨rfl, rfl⟩
    apply NDr.rd [0]
    ·intro fH TH
     refine NG.map0N (by omega) ?_
     exact ⟨rfl, rfl⟩
    apply NDr.any
    ·intro H'
     exact ⟨rfl, rfl⟩
    refine NDr.w _ ?_
    apply NDr.rd [0]
    ·intro fH TH
     refine NP.mk (by (simp only [zLm, zLa, zLr, zLc, zLn, zLt, zLd]; omega)) ?_
     exact ⟨rfl, rfl⟩
    apply NDr.rd [0]
    ·intro fH TH
     refine NG.map0N (by omega) ?_
     exact ⟨rfl, rfl⟩
    apply NDr.rd [0]
    ·intro fH TH
     refine NP.mk (by (simp only [zLm, zLa, zLr, zLc, zLn, zLt, zLd]; omega)) ?_
     exact ⟨rfl, rfl⟩
    apply NDr.efw [0]
    ·refine NG.map0N (by omega) ?_
     exact ⟨rfl, rfl⟩
    ·repeat (first | exact True.intro | refine ⟨by first | exact rfl | exact True.intro, ?_⟩)
    apply NDr.efw []
    ·refine NP.mk (by (simp; omega)) ?_
     rw [(ek)]
     exact ⟨rfl, rfl⟩
    ·repeat (first | exact True.intro | refine ⟨by first | exact rfl | exact True.intro, ?_⟩)
    apply NDr.efw [0]
    ·refine NG.get (by simp; omega) ?_
     exact ⟨rfl, rfl⟩
    ·repeat (first | exact True.intro | refine ⟨by first | exact rfl | exact True.intro, ?_⟩)
    refine NP.mk (by kernel_rfl) ?_
    refine NW.w ?_
    exact Canon.mk [] rfl ⟨k, by omega, k, swpL e (k + 1) k h1 h0, by omega, rfl, (swpL_len h1 h0).trans hel, by rw [← hee, insInner_go hja (by rw [g1, g0, hlt]), swpL_eq h1 h0], by rw [← swpL_row h1 h0, Nat.zero_add, Nat.zero_add]; rfl, by rw [show (((k + 1 : Nat) : Int) - 1) = k by omega]; rfl⟩
   | false =>
    have hlt' : ¬ cmpIt e[k + 1] e[k] < 0 := fun h => by rw [ltI_iff.2 h] at hlt; simp at hlt
    refine NP.mk (by kernel_rfl) ?_
    refine NDr.w _ ?_
    refine NDr.w _ ?_
    apply NDr.pure
    ·refine ND.yes (by omega) ?_
     exact ⟨rfl, rfl⟩
    refine NDr.w _ ?_
    refine NDr.w _ ?_
    apply NDr.any
    ·intro H'
     exact ⟨rfl, rfl⟩
    refine NDr.w _ ?_
    apply NDr.rd [0]
    ·intro fH TH
     refine NP.mk (by (simp only [zLm, zLa, zLr, zLc, zLn, zLt, zLd]; omega)) ?_
     exact ⟨rfl, rfl⟩
    apply NDr.rd [0]
    ·intro fH TH
     refine NG.map0N (by omega) ?_
     exact ⟨rfl, rfl⟩
    apply NDr.any
    ·intro H'
     exact ⟨rfl, rfl⟩
    refine NDr.w _ ?_
    apply NDr.pure
    ·refine NW.w ?_
     exact ⟨rfl, rfl⟩
    apply NDr.rd [0]
    ·intro fH TH
     refine NP.mk (by (simp only [zLm, zLa, zLr, zLc, zLn, zLt, zLd]; omega)) ?_
     rw [(ek)]
     exact ⟨rfl, rfl⟩
    apply NDr.rd [0]
    ·intro fH TH
     refine NG.map0N (by omega) ?_
     exact ⟨rfl, rfl⟩
    apply NDr.pure
    ·refine NCall.call (hc) rfl rfl ?_
     exact ⟨rfl, rfl⟩
    apply NDr.pure
    ·refine ND.no (by omega) ?_
     exact ⟨rfl, rfl⟩
    refine NDr.w _ ?_
    refine NP.mk (by kernel_rfl) ?_
    refine NW.w ?_
    refine Canon.mk [] rfl ⟨b - (i + 1), by omega, i + 1, e, by omega, rfl, hel, ?_, rfl, rfl⟩
    rw [← he, insOuter.eq_def (i := i), if_pos hib, ← hee, insInner_stop (.inr ⟨k, rfl, by rw [g1, g0, hlt]⟩)]
  ·refine NP.mk (by kernel_rfl) ?_
   refine NDr.w _ ?_
   refine NDr.w _ ?_
   apply NDr.pure
   ·refine ND.no (by omega) ?_
    exact ⟨rfl, rfl⟩
   refine NDr.w _ ?_
   refine NDr.w _ ?_
   refine NP.mk (by kernel_rfl) ?_
   refine NW.w ?_
   refine Canon.mk [] rfl ⟨b - (i + 1), by omega, i + 1, e, by omega, rfl, hel, ?_, rfl, rfl⟩
   rw [← he, insOuter.eq_def (i := i), if_pos hib, ← hee, insInner_stop (.inl hja)]
 ·refine ND.no (by omega) ?_
  refine NRet.mk [] rfl ⟨.refl _, ?_⟩
  rw [← he, insOuter, if_neg hib]
end Go.Bv
namespace Go.Bv
set_option linter.unusedSimpArgs false
set_option linter.unusedVariables false
set_option maxHeartbeats 4000000
set_option maxRecDepth 20000
open Go Go.Proofs
open Go.Sort (swp siftDown heapBuild heapPop heapSort reverseLoop reverseRange)
theorem ltT {x y : Item} (h : ltI x y = true) : cmpIt x y < 0 := ltI_iff.1 h
theorem ltF {x y : Item} (h : ltI x y = false) : ¬ cmpIt x y < 0 := fun k => by rw [ltI_iff.2 k] at h; simp at h
theorem siftDown_walk (l : List Item) (lo hi first : Nat) (hb : first + hi ≤ l.length) (hlo : lo ≤ 2 ^ 40) (hl : l.length ≤ 2 ^ 40) : ACalls Tryz.prog Nm.slices_siftDownCmpFunc_api_Item [.own 0 0 l.length, i64 lo, i64 hi, i64 first, .fn Nm.item_compare []]
  [.row .vrow (.agg 8) (l.map itemA)] (.tup []) [.row .vrow (.agg 8) ((siftDown ltI hi first lo l.toArray).toList.map itemA)] := by
 refine ACalls_of tab (dr_snd tab mixed) Nm.slices_siftDownCmpFunc_api_Item_h rfl (by kernel_rfl) (Nat.le_of_ble_eq_true rfl) rfl ?_
 skip
 refine NLoop.mk [] [0, 2, 3, 4, 10] (fun m vs H => ∃ (root : Nat) (d : List Item), root ≤ 2 ^ 40 ∧ m = hi - root ∧ d.length = l.length ∧ siftDown ltI hi first root d.toArray = siftDown ltI hi first lo l.toArray ∧ H = [.row .vrow (.agg 8) (d.map itemA)] ∧
  vs = [.own 0 0 l.length, i64 hi, i64 first, .fn Nm.item_compare [], i64 root]) rfl ?_ ?_
 ·exact Canon.mk [] rfl ⟨hi - lo, lo, l, hlo, rfl, rfl, rfl, rfl, rfl⟩
 rintro m vs H ⟨root, d, hr, rfl, hdl, he, rfl, rfl⟩
 rw [← he]
 obtain ⟨c, hc⟩ : ∃ c, c = 2 * root + 1 := ⟨_, rfl⟩
 have ec : (2 : Int) * (root : Int) + 1 = (c : Int) := by omega
 have e1 : Int.toNat ((first : Int) + (c : Int)) = first + c := by omega
 have e2 : Int.toNat ((first : Int) + (c : Int) + 1) = first + c + 1 := by omega
 have e3 : Int.toNat ((first : Int) + ((c : Int) + 1)) = first + (c + 1) := by omega
 have er : Int.toNat ((first : Int) + (root : Int)) = first + root := by omega
 have eS := siftDown.eq_def ltI hi first root d.toArray
 rw [← hc] at eS
 by_cases h1 : c < hi
 ·have k0 : first + root < d.length := by omega
  have k1 : first + c < d.length := by omega
  have g0 := getA k0
  have g1 := getA k1
  have b1 := item_compare_walk d[first + root] d[first + c]
  rw [dif_neg (by omega)] at eS
  by_cases h2 : c + 1 < hi
  ·have k2 : first + c + 1 < d.length := by omega
   have k2' : first + (c + 1) < d.length := by omega
   have g2 := getA k2
   have g2' : d.toArray[first + (2 * root + 2)]! = d[first + (c + 1)] := by rw [← getA k2', show 2 * root + 2 = c + 1 by omega]
   have b0 := item_compare_walk d[first + c] d[first + c + 1]
   have b2 := item_compare_walk d[first + root] d[first + (c + 1)]
   cases t1 : ltI d[first + c] d[first + c + 1] with
   | true =>
    have q1 := ltT t1
    rw [if_pos (by rw [g1, g2, t1]; simp [h2])] at eS
    cases t2 : ltI d[first + root] d[first + (c + 1)] with
    | true =>
     have q2 := ltT t2
     refine NW.w ?_
     refine NW.w ?_
     rw [(ec)]
     refine ND.no (by omega) ?_
     refine NP.mk (by kernel_rfl) ?_
     refine NDr.w _ ?_
     apply NDr.pure
     ·refine NW.w ?_
      exact ⟨rfl, rfl⟩
     refine NDr.w _ ?_
     apply NDr.pure
     ·refine ND.yes (by omega) ?_
      exact ⟨rfl, rfl⟩
     refine NDr.w _ ?_
     refine NDr.w _ ?_
     apply NDr.any
     ·intro H'
      exact ⟨rfl, rfl⟩
     refine NDr.w _ ?_
     refine NDr.w _ ?_
     apply NDr.pure
     ·refine NW.w ?_
      exact ⟨rfl, rfl⟩
     apply NDr.rd [0]
     ·intro fH TH
      refine NP.mk (by (simp only [zLm, zLa, zLr, zLc, zLn, zLt, zLd]; omega)) ?_
      rw [(e1)]
      exact ⟨rfl, rfl⟩
     apply NDr.rd [0]
     ·intro fH TH
      refine NG.map0N (by omega) ?_
      exact ⟨rfl, rfl⟩
     apply NDr.any
     ·intro H'
      exact ⟨rfl, rfl⟩
     refine NDr.w _ ?_
     refine NDr.w _ ?_
     apply NDr.pure
     ·refine NW.w ?_
      exact ⟨rfl, rfl⟩
     apply NDr.pure
     ·refine NW.w ?_
      exact ⟨rfl, rfl⟩
     apply NDr.rd [0]
     ·intro fH TH
      refine NP.mk (by (simp only [zLm, zLa, zLr, zLc, zLn, zLt, zLd]; omega)) ?_
      rw [(e2)]
      exact ⟨rfl, rfl⟩
     apply NDr.rd [0]
     ·intro fH TH
      refine NG.map0N (by omega) ?_
      exact ⟨rfl, rfl⟩
     apply NDr.pure
     ·refine NCall.call (b0) rfl rfl ?_
      exact ⟨rfl, rfl⟩
     apply NDr.pure
     ·refine ND.yes (by omega) ?_
      exact ⟨rfl, rfl⟩
     refine NDr.w _ ?_
     refine NP.mk (by kernel_rfl) ?_
     refine NW.w ?_
     refine NP.mk (by kernel_rfl) ?_
     refine NDr.w _ ?_
     apply NDr.any
     ·intro H'
      exact ⟨rfl, rfl⟩
     refine NDr.w _ ?_
     refine NDr.w _ ?_
     apply NDr.pure
     ·refine NW.w ?_
      exact ⟨rfl, rfl⟩
     apply NDr.rd [0]
     ·intro fH TH
      refine NP.mk (by (simp only [zLm, zLa, zLr, zLc, zLn, zLt, zLd]; omega)) ?_
      rw [(er)]
      exact ⟨rfl, rfl⟩
     apply NDr.rd [0]
     ·intro fH TH
      refine NG.map0N (by omega) ?_
      exact ⟨rfl, rfl⟩
     apply NDr.any
     ·intro H'
      exact ⟨rfl, rfl⟩
     refine NDr.w _ ?_
     refine NDr.w _ ?_
     apply NDr.pure
     ·refine NW.w ?_
      exact ⟨rfl, rfl⟩
     apply NDr.rd [0]
     ·intro fH TH
      refine NP.mk (by (simp only [zLm, zLa, zLr, zLc, zLn, zLt, zLd]; omega)) ?_
      rw [(e3)]
      exact ⟨rfl, rfl⟩
     apply NDr.rd [0]
     ·intro fH TH
      refine NG.map0N (by omega) ?_
      exact ⟨rfl, rfl⟩
     apply NDr.pure
     ·refine NCall.call (b2) rfl rfl ?_
      exact ⟨rfl, rfl⟩
     apply NDr.pure
     ·refine ND.yes (by omega) ?_
      exact ⟨rfl, rfl⟩
     refine NDr.w _ ?_
     refine NP.mk (by kernel_rfl) ?_
     refine NP.mk (by kernel_rfl) ?_
     apply NDr.any
     ·intro H'
      exact ⟨rfl, rfl⟩
     refine NDr.w _ ?_
     refine NDr.w _ ?_
     apply NDr.pure
     ·refine NW.w ?_
      exact ⟨rfl, rfl⟩
     apply NDr.any
     ·intro H'
      exact ⟨rfl, rfl⟩
     refine NDr.w _ ?_
     refine NDr.w _ ?_
     apply NDr.pure
     ·refine NW.w ?_
      exact ⟨rfl, rfl⟩
     apply NDr.any
     ·intro H'
      exact ⟨rfl, rfl⟩
     refine NDr.w _ ?_
     refine NDr.w _ ?_
     apply NDr.pure
     ·refine NW.w ?_
      exact ⟨rfl, rfl⟩
     apply NDr.rd [0]
     ·intro fH TH
      refine NP.mk (by (simp only [zLm, zLa, zLr, zLc, zLn, zLt, zLd]; omega)) ?_
      rw [(e3)]
      exact ⟨rfl, rfl⟩
     apply NDr.rd [0]
     ·intro fH TH
      refine NG.map0N (by omega) ?_
      exact ⟨rfl, rfl⟩
     apply NDr.any
     ·intro H'
      exact ⟨rfl, rfl⟩
     refine NDr.w _ ?_
     refine NDr.w _ ?_
     apply NDr.pure
     ·refine NW.w ?_
      exact ⟨rfl, rfl⟩
     apply NDr.rd [0]
     ·intro fH TH
      refine NP.mk (by (simp only [zLm, zLa, zLr, zLc, zLn, zLt, zLd]; omega)) ?_
      rw [(er)]
      exact ⟨rfl, rfl⟩
     apply NDr.rd [0]
     ·intro fH TH
      refine NG.map0N (by omega) ?_
      exact ⟨rfl, rfl⟩
     apply NDr.rd [0]
     ·intro fH TH
      refine NP.mk (by (simp only [zLm, zLa, zLr, zLc, zLn, zLt, zLd]; omega)) ?_
      rw [(er)]
      exact ⟨rfl, rfl⟩
     apply NDr.efw [0]
     ·refine NG.map0N (by omega) ?_
      exact ⟨rfl, rfl⟩
     ·repeat (first | exact True.intro | refine ⟨by first | exact rfl | exact True.intro, ?_⟩)
     apply NDr.efw []
     ·refine NP.mk (by (simp; omega)) ?_
      rw [(e3)]
      exact ⟨rfl, rfl⟩
     ·repeat (first | exact True.intro | refine ⟨by first | exact rfl | exact True.intro, ?_⟩)
     apply NDr.efw [0]
     ·refine NG.get (by simp; omega) ?_
      exact ⟨rfl, rfl⟩
     ·repeat (first | exact True.intro | refine ⟨by first | exact rfl | exact True.intro, ?_⟩)
     refine NP.mk (by kernel_rfl) ?_
     rw [g2'] at eS
     refine Canon.mk [] rfl ⟨hi - (c + 1), by omega, c + 1, swpL d (first + root) (first + (c + 1)) k0 k2', by omega, rfl, (swpL_len k0 k2').trans hdl, ?_, ?_, rfl⟩
     ·rw [eS, g0, t2, if_neg (by simp), dif_pos (by omega), show 2 * root + 2 = c + 1 by omega, swpL_eq k0 k2']
     ·rw [← swpL_row k0 k2', Nat.zero_add, Nat.zero_add]; rfl
    | false =>
     have q2 := ltF t2
     refine NW.w ?_
     refine NW.w ?_
     rw [(ec)]
     refine ND.no (by omega) ?_
     refine NP.mk (by kernel_rfl) ?_
     refine NDr.w _ ?_
     apply NDr.pure
     ·refine NW.w ?_
      exact ⟨rfl, rfl⟩
     refine NDr.w _ ?_
     apply NDr.pure
     ·refine ND.yes (by omega) ?_
      exact ⟨rfl, rfl⟩
     refine NDr.w _ ?_
     refine NDr.w _ ?_
     apply NDr.any
     ·intro H'
      exact ⟨rfl, rfl⟩
     refine NDr.w _ ?_
     refine NDr.w _ ?_
     apply NDr.pure
     ·refine NW.w ?_
      exact ⟨rfl, rfl⟩
     apply NDr.rd [0]
     ·intro fH TH
      refine NP.mk (by (simp only [zLm, zLa, zLr, zLc, zLn, zLt, zLd]; omega)) ?_
      rw [(e1)]
      exact ⟨rfl, rfl⟩
     apply NDr.rd [0]
     ·intro fH TH
      refine NG.map0N (by omega) ?_
      exact ⟨rfl, rfl⟩
     apply NDr.any
     ·intro H'
      exact ⟨rfl, rfl⟩
     refine NDr.w _ ?_
     refine NDr.w _ ?_
     apply NDr.pure
     ·refine NW.w ?_
      exact ⟨rfl, rfl⟩
     apply NDr.pure
     ·refine NW.w ?_
      exact ⟨rfl, rfl⟩
     apply NDr.rd [0]
     ·intro fH TH
      refine NP.mk (by (simp only [zLm, zLa, zLr, zLc, zLn, zLt, zLd]; omega)) ?_
      rw [(e2)]
      exact ⟨rfl, rfl⟩
     apply NDr.rd [0]
     ·intro fH TH
      refine NG.map0N (by omega) ?_
      exact ⟨rfl, rfl⟩
     apply NDr.pure
     ·refine NCall.call (b0) rfl rfl ?_
      exact ⟨rfl, rfl⟩
     apply NDr.pure
     ·refine ND.yes (by omega) ?_
      exact ⟨rfl, rfl⟩
     refine NDr.w _ ?_
     refine NP.mk (by kernel_rfl) ?_
     refine NW.w ?_
     refine NP.mk (by kernel_rfl) ?_
     refine NDr.w _ ?_
     apply NDr.any
     ·intro H'
      exact ⟨rfl, rfl⟩
     refine NDr.w _ ?_
     refine NDr.w _ ?_
     apply NDr.pure
     ·refine NW.w ?_
      exact ⟨rfl, rfl⟩
     apply NDr.rd [0]
     ·intro fH TH
      refine NP.mk (by (simp only [zLm, zLa, zLr, zLc, zLn, zLt, zLd]; omega)) ?_
      rw [(er)]
      exact ⟨rfl, rfl⟩
     apply NDr.rd [0]
     ·intro fH TH
      refine NG.map0N (by omega) ?_
      exact ⟨rfl, rfl⟩
     apply NDr.any
     ·intro H'
      exact ⟨rfl, rfl⟩
     refine NDr.w _ ?_
     refine NDr.w _ ?_
     apply NDr.pure
     ·refine NW.w ?_
      exact ⟨rfl, rfl⟩
     apply NDr.rd [0]
     ·intro fH TH
      refine NP.mk (by (simp only [zLm, zLa, zLr, zLc, zLn, zLt, zLd]; omega)) ?_
      rw [(e3)]
      exact ⟨rfl, rfl⟩
     apply NDr.rd [0]
     ·intro fH TH
      refine NG.map0N (by omega) ?_
      exact ⟨rfl, rfl⟩
     apply NDr.pure
     ·refine NCall.call (b2) rfl rfl ?_
      exact ⟨rfl, rfl⟩
     apply NDr.pure
     ·refine ND.no (by omega) ?_
      exact ⟨rfl, rfl⟩
     refine NDr.w _ ?_
     refine NP.mk (by kernel_rfl) ?_
     rw [g2'] at eS
     refine NRet.mk [] rfl ⟨.refl _, ?_⟩
     rw [eS, g0, t2, if_pos (by simp)]
   | false =>
    have q1 := ltF t1
    rw [if_neg (by rw [g1, g2, t1]; simp)] at eS
    cases t2 : ltI d[first + root] d[first + c] with
    | true =>
     have q2 := ltT t2
     refine NW.w ?_
     refine NW.w ?_
     rw [(ec)]
     refine ND.no (by omega) ?_
     refine NP.mk (by kernel_rfl) ?_
     refine NDr.w _ ?_
     apply NDr.pure
     ·refine NW.w ?_
      exact ⟨rfl, rfl⟩
     refine NDr.w _ ?_
     apply NDr.pure
     ·refine ND.yes (by omega) ?_
      exact ⟨rfl, rfl⟩
     refine NDr.w _ ?_
     refine NDr.w _ ?_
     apply NDr.any
     ·intro H'
      exact ⟨rfl, rfl⟩
     refine NDr.w _ ?_
     refine NDr.w _ ?_
     apply NDr.pure
     ·refine NW.w ?_
      exact ⟨rfl, rfl⟩
     apply NDr.rd [0]
     ·intro fH TH
      refine NP.mk (by (simp only [zLm, zLa, zLr, zLc, zLn, zLt, zLd]; omega)) ?_
      rw [(e1)]
      exact ⟨rfl, rfl⟩
     apply NDr.rd [0]
     ·intro fH TH
      refine NG.map0N (by omega) ?_
      exact ⟨rfl, rfl⟩
     apply NDr.any
     ·intro H'
      exact ⟨rfl, rfl⟩
     refine NDr.w _ ?_
     refine NDr.w _ ?_
     apply NDr.pure
     ·refine NW.w ?_
      exact ⟨rfl, rfl⟩
     apply NDr.pure
     ·refine NW.w ?_
      exact ⟨rfl, rfl⟩
     apply NDr.rd [0]
     ·intro fH TH
      refine NP.mk (by (simp only [zLm, zLa, zLr, zLc, zLn, zLt, zLd]; omega)) ?_
      rw [(e2)]
      exact ⟨rfl, rfl⟩
     apply NDr.rd [0]
     ·intro fH TH
      refine NG.map0N (by omega) ?_
      exact ⟨rfl, rfl⟩
     apply NDr.pure
     ·refine NCall.call (b0) rfl rfl ?_
      exact ⟨rfl, rfl⟩
     apply NDr.pure
     ·refine ND.no (by omega) ?_
      exact ⟨rfl, rfl⟩
     refine NDr.w _ ?_
     refine NP.mk (by kernel_rfl) ?_
     refine NP.mk (by kernel_rfl) ?_
     refine NDr.w _ ?_
     apply NDr.any
     ·intro H'
      exact ⟨rfl, rfl⟩
     refine NDr.w _ ?_
     refine NDr.w _ ?_
     apply NDr.pure
     ·refine NW.w ?_
      exact ⟨rfl, rfl⟩
     apply NDr.rd [0]
     ·intro fH TH
      refine NP.mk (by (simp only [zLm, zLa, zLr, zLc, zLn, zLt, zLd]; omega)) ?_
      rw [(er)]
      exact ⟨rfl, rfl⟩
     apply NDr.rd [0]
     ·intro fH TH
      refine NG.map0N (by omega) ?_
      exact ⟨rfl, rfl⟩
     apply NDr.any
     ·intro H'
      exact ⟨rfl, rfl⟩
     refine NDr.w _ ?_
     refine NDr.w _ ?_
     apply NDr.pure
     ·refine NW.w ?_
      exact ⟨rfl, rfl⟩
     apply NDr.rd [0]
     ·intro fH TH
      refine NP.mk (by (simp only [zLm, zLa, zLr, zLc, zLn, zLt, zLd]; omega)) ?_
      rw [(e1)]
      exact ⟨rfl, rfl⟩
     apply NDr.rd [0]
     ·intro fH TH
      refine NG.map0N (by omega) ?_
      exact ⟨rfl, rfl⟩
     apply NDr.pure
     ·refine NCall.call (b1) rfl rfl ?_
      exact ⟨rfl, rfl⟩
     apply NDr.pure
     ·refine ND.yes (by omega) ?_
      exact ⟨rfl, rfl⟩
     refine NDr.w _ ?_
     refine NP.mk (by kernel_rfl) ?_
     refine NP.mk (by kernel_rfl) ?_
     apply NDr.any
     ·intro H'
      exact ⟨rfl, rfl⟩
     refine NDr.w _ ?_
     refine NDr.w _ ?_
     apply NDr.pure
     ·refine NW.w ?_
      exact ⟨rfl, rfl⟩
     apply NDr.any
     ·intro H'
      exact ⟨rfl, rfl⟩
     refine NDr.w _ ?_
     refine NDr.w _ ?_
     apply NDr.pure
     ·refine NW.w ?_
      exact ⟨rfl, rfl⟩
     apply NDr.any
     ·intro H'
      exact ⟨rfl, rfl⟩
     refine NDr.w _ ?_
     refine NDr.w _ ?_
     apply NDr.pure
     ·refine NW.w ?_
      exact ⟨rfl, rfl⟩
     apply NDr.rd [0]
     ·intro fH TH
      refine NP.mk (by (simp only [zLm, zLa, zLr, zLc, zLn, zLt, zLd]; omega)) ?_
      rw [(e1)]
      exact ⟨rfl, rfl⟩
     apply NDr.rd [0]
     ·intro fH TH
      refine NG.map0N (by omega) ?_
      exact ⟨rfl, rfl⟩
     apply NDr.any
     ·intro H'
      exact ⟨rfl, rfl⟩
     refine NDr.w _ ?_
     refine NDr.w _ ?_
     apply NDr.pure
     ·refine NW.w ?_
      exact ⟨rfl, rfl⟩
     apply NDr.rd [0]
     ·intro fH TH
      refine NP.mk (by (simp only [zLm, zLa, zLr, zLc, zLn, zLt, zLd]; omega)) ?_
      rw [(er)]
      exact ⟨rfl, rfl⟩
     apply NDr.rd [0]
     ·intro fH TH
      refine NG.map0N (by omega) ?_
      exact ⟨rfl, rfl⟩
     apply NDr.rd [0]
     ·intro fH TH
      refine NP.mk (by (simp only [zLm, zLa, zLr, zLc, zLn, zLt, zLd]; omega)) ?_
      rw [(er)]
      exact ⟨rfl, rfl⟩
     apply NDr.efw [0]
     ·refine NG.map0N (by omega) ?_
      exact ⟨rfl, rfl⟩
     ·repeat (first | exact True.intro | refine ⟨by first | exact rfl | exact True.intro, ?_⟩)
     apply NDr.efw []
     ·refine NP.mk (by (simp; omega)) ?_
      rw [(e1)]
      exact ⟨rfl, rfl⟩
     ·repeat (first | exact True.intro | refine ⟨by first | exact rfl | exact True.intro, ?_⟩)
     apply NDr.efw [0]
     ·refine NG.get (by simp; omega) ?_
      exact ⟨rfl, rfl⟩
     ·repeat (first | exact True.intro | refine ⟨by first | exact rfl | exact True.intro, ?_⟩)
     refine NP.mk (by kernel_rfl) ?_
     refine Canon.mk [] rfl ⟨hi - c, by omega, c, swpL d (first + root) (first + c) k0 k1, by omega, rfl, (swpL_len k0 k1).trans hdl, ?_, ?_, rfl⟩
     ·rw [eS, g0, g1, t2, if_neg (by simp), swpL_eq k0 k1]
     ·rw [← swpL_row k0 k1, Nat.zero_add, Nat.zero_add]; rfl
    | false =>
     have q2 := ltF t2
     refine NW.w ?_
     refine NW.w ?_
     rw [(ec)]
     refine ND.no (by omega) ?_
     refine NP.mk (by kernel_rfl) ?_
     refine NDr.w _ ?_
     apply NDr.pure
     ·refine NW.w ?_
      exact ⟨rfl, rfl⟩
     refine NDr.w _ ?_
     apply NDr.pure
     ·refine ND.yes (by omega) ?_
      exact ⟨rfl, rfl⟩
     refine NDr.w _ ?_
     refine NDr.w _ ?_
     apply NDr.any
     ·intro H'
      exact ⟨rfl, rfl⟩
     refine NDr.w _ ?_
     refine NDr.w _ ?_
     apply NDr.pure
     ·refine NW.w ?_
      exact ⟨rfl, rfl⟩
     apply NDr.rd [0]
     ·intro fH TH
      refine NP.mk (by (simp only [zLm, zLa, zLr, zLc, zLn, zLt, zLd]; omega)) ?_
      rw [(e1)]
      exact ⟨rfl, rfl⟩
     apply NDr.rd [0]
     ·intro fH TH
      refine NG.map0N (by omega) ?_
      exact ⟨rfl, rfl⟩
     apply NDr.any
     ·intro H'
      exact ⟨rfl, rfl⟩
     refine NDr.w _ ?_
     refine NDr.w _ ?_
     apply NDr.pure
     ·refine NW.w ?_
      exact ⟨rfl, rfl⟩
     apply NDr.pure
     ·refine NW.w ?_
      exact ⟨rfl, rfl⟩
     apply NDr.rd [0]
     ·intro fH TH
      refine NP.mk (by (simp only [zLm, zLa, zLr, zLc, zLn, zLt, zLd]; omega)) ?_
      rw [(e2)]
      exact ⟨rfl, rfl⟩
     apply NDr.rd [0]
     ·intro fH TH
      refine NG.map0N (by omega) ?_
      exact ⟨rfl, rfl⟩
     apply NDr.pure
     ·refine NCall.call (b0) rfl rfl ?_
      exact ⟨rfl, rfl⟩
     apply NDr.pure
     ·refine ND.no (by omega) ?_
      exact ⟨rfl, rfl⟩
     refine NDr.w _ ?_
     refine NP.mk (by kernel_rfl) ?_
     refine NP.mk (by kernel_rfl) ?_
     refine NDr.w _ ?_
     apply NDr.any
     ·intro H'
      exact ⟨rfl, rfl⟩
     refine NDr.w _ ?_
     refine NDr.w _ ?_
     apply NDr.pure
     ·refine NW.w ?_
      exact ⟨rfl, rfl⟩
     apply NDr.rd [0]
     ·intro fH TH
      refine NP.mk (by (simp only [zLm, zLa, zLr, zLc, zLn, zLt, zLd]; omega)) ?_
      rw [(er)]
      exact ⟨rfl, rfl⟩
     apply NDr.rd [0]
     ·intro fH TH
      refine NG.map0N (by omega) ?_
      exact ⟨rfl, rfl⟩
     apply NDr.any
     ·intro H'
      exact ⟨rfl, rfl⟩
     refine NDr.w _ ?_
     refine NDr.w _ ?_
     apply NDr.pure
     ·refine NW.w ?_
      exact ⟨rfl, rfl⟩
     apply NDr.rd [0]
     ·intro fH TH
      refine NP.mk (by (simp only [zLm, zLa, zLr, zLc, zLn, zLt, zLd]; omega)) ?_
      rw [(e1)]
      exact ⟨rfl, rfl⟩
     apply NDr.rd [0]
     ·intro fH TH
      refine NG.map0N (by omega) ?_
      exact ⟨rfl, rfl⟩
     apply NDr.pure
     ·refine NCall.call (b1) rfl rfl ?_
      exact ⟨rfl, rfl⟩
     apply NDr.pure
     ·refine ND.no (by omega) ?_
      exact ⟨rfl, rfl⟩
     refine NDr.w _ ?_
     refine NP.mk (by kernel_rfl) ?_
     refine NRet.mk [] rfl ⟨.refl _, ?_⟩
     rw [eS, g0, g1, t2, if_pos (by simp)]
  ·rw [if_neg (by simp [h2])] at eS
   cases t2 : ltI d[first + root] d[first + c] with
   | true =>
    have q2 := ltT t2
    refine NW.w ?_
    refine NW.w ?_
    rw [(ec)]
    refine ND.no (by omega) ?_
    refine NP.mk (by kernel_rfl) ?_
    refine NDr.w _ ?_
    apply NDr.pure
    ·refine NW.w ?_
     exact ⟨rfl, rfl⟩
    refine NDr.w _ ?_
    apply NDr.pure
    ·refine ND.no (by omega) ?_
     exact ⟨rfl, rfl⟩
    refine NDr.w _ ?_
    refine NDr.w _ ?_
    refine NP.mk (by kernel_rfl) ?_
    refine NP.mk (by kernel_rfl) ?_
    refine NDr.w _ ?_
    apply NDr.any
    ·intro H'
     exact ⟨rfl, rfl⟩
    refine NDr.w _ ?_
    refine NDr.w _ ?_
    apply NDr.pure
    ·refine NW.w ?_
     exact ⟨rfl, rfl⟩
    apply NDr.rd [0]
    ·intro fH TH
     refine NP.mk (by (simp only [zLm, zLa, zLr, zLc, zLn, zLt, zLd]; omega)) ?_
     rw [(er)]
     exact ⟨rfl, rfl⟩
    apply NDr.rd [0]
    ·intro fH TH
     refine NG.map0N (by omega) ?_
     exact ⟨rfl, rfl⟩
    apply NDr.any
    ·intro H'
     exact ⟨rfl, rfl⟩
    refine NDr.w _ ?_
    refine NDr.w _ ?_
    apply NDr.pure
    ·refine NW.w ?_
     exact ⟨rfl, rfl⟩
    apply NDr.rd [0]
    ·intro fH TH
     refine NP.mk (by (simp only [zLm, zLa, zLr, zLc, zLn, zLt, zLd]; omega)) ?_
     rw [(e1)]
     exact ⟨rfl, rfl⟩
    apply NDr.rd [0]
    ·intro fH TH
     refine NG.map0N (by omega) ?_
     exact ⟨rfl, rfl⟩
    apply NDr.pure
    ·refine NCall.call (b1) rfl rfl ?_
     exact ⟨rfl, rfl⟩
    apply NDr.pure
    ·refine ND.yes (by omega) ?_
     exact ⟨rfl, rfl⟩
    refine NDr.w _ ?_
    refine NP.mk (by kernel_rfl) ?_
    refine NP.mk (by kernel_rfl) ?_
    apply NDr.any
    ·intro H'
     exact ⟨rfl, rfl⟩
    refine NDr.w _ ?_
    refine NDr.w _ ?_
    apply NDr.pure
    ·refine NW.w ?_
     exact ⟨rfl, rfl⟩
    apply NDr.any
    ·intro H'
     exact ⟨rfl, rfl⟩
    refine NDr.w _ ?_
    refine NDr.w _ ?_
    apply NDr.pure
    ·refine NW.w ?_
     exact ⟨rfl, rfl⟩
    apply NDr.any
    ·intro H'
     exact ⟨rfl, rfl⟩
    refine NDr.w _ ?_
    refine NDr.w _ ?_
    apply NDr.pure
    ·refine NW.w ?_
     exact ⟨rfl, rfl⟩
    apply NDr.rd [0]
    ·intro fH TH
     refine NP.mk (by (simp only [zLm, zLa, zLr, zLc, zLn, zLt, zLd]; omega)) ?_
     rw [(e1)]
     exact ⟨rfl, rfl⟩
    apply NDr.rd [0]
    ·intro fH TH
     refine NG.map0N (by omega) ?_
     exact ⟨rfl, rfl⟩
    apply NDr.any
    ·intro H'
     exact ⟨rfl, rfl⟩
    refine NDr.w _ ?_
    refine NDr.w _ ?_
    apply NDr.pure
    ·refine NW.w ?_
     exact ⟨rfl, rfl⟩
    apply NDr.rd [0]
    ·intro fH TH
     refine NP.mk (by (simp only [zLm, zLa, zLr, zLc, zLn, zLt, zLd]; omega)) ?_
     rw [(er)]
     exact ⟨rfl, rfl⟩
    apply NDr.rd [0]
    ·intro fH TH
     refine NG.map0N (by omega) ?_
     exact ⟨rfl, rfl⟩
    apply NDr.rd [0]
    ·intro fH TH
     refine NP.mk (by (simp only [zLm, zLa, zLr, zLc, zLn, zLt, zLd]; omega)) ?_
     rw [(er)]
     exact ⟨rfl, rfl⟩
    apply NDr.efw [0]
    ·refine NG.map0N (by omega) ?_
     exact ⟨rfl, rfl⟩
    ·repeat (first | exact True.intro | refine ⟨by first | exact rfl | exact True.intro, ?_⟩)
    apply NDr.efw []
    ·refine NP.mk (by (simp; omega)) ?_
     rw [(e1)]
     exact ⟨rfl, rfl⟩
    ·repeat (first | exact True.intro | refine ⟨by first | exact rfl | exact True.intro, ?_⟩)
    apply NDr.efw [0]
    ·refine NG.get (by simp; omega) ?_
     exact ⟨rfl, rfl⟩
    ·repeat (first | exact True.intro | refine ⟨by first | exact rfl | exact True.intro, ?_⟩)
    refine NP.mk (by kernel_rfl) ?_
    refine Canon.mk [] rfl ⟨hi - c, by omega, c, swpL d (first + root) (first + c) k0 k1, by omega, rfl, (swpL_len k0 k1).trans hdl, ?_, ?_, rfl⟩
    ·rw [eS, g0, g1, t2, if_neg (by simp), swpL_eq k0 k1]
    ·rw [← swpL_row k0 k1, Nat.zero_add, Nat.zero_add]; rfl
   | false =>
    have q2 := ltF t2
    refine NW.w ?_
    refine NW.w ?_
    rw [(ec)]
    refine ND.no (by omega) ?_
    refine NP.mk (by kernel_rfl) ?_
    refine NDr.w _ ?_
    apply NDr.pure
    ·refine NW.w ?_
     exact ⟨rfl, rfl⟩
    refine NDr.w _ ?_
    apply NDr.pure
    ·refine ND.no (by omega) ?_
     exact ⟨rfl, rfl⟩
    refine NDr.w _ ?_
    refine NDr.w _ ?_
    refine NP.mk (by kernel_rfl) ?_
    refine NP.mk (by kernel_rfl) ?_
    refine NDr.w _ ?_
    apply NDr.any
    ·intro H'
     exact ⟨rfl, rfl⟩
    refine NDr.w _ ?_
    refine NDr.w _ ?_
    apply NDr.pure
    ·refine NW.w ?_
     exact ⟨rfl, rfl⟩
    apply NDr.rd [0]
    ·intro fH TH
     refine NP.mk (by (simp only [zLm, zLa, zLr, zLc, zLn, zLt, zLd]; omega)) ?_
     rw [(er)]
     exact ⟨rfl, rfl⟩
    apply NDr.rd [0]
    ·intro fH TH
     refine NG.map0N (by omega) ?_
     exact ⟨rfl, rfl⟩
    apply NDr.any
    ·intro H'
     exact ⟨rfl, rfl⟩
    refine NDr.w _ ?_
    refine NDr.w _ ?_
    apply NDr.pure
    ·refine NW.w ?_
     exact ⟨rfl, rfl⟩
    apply NDr.rd [0]
    ·intro fH TH
     refine NP.mk (by (simp only [zLm, zLa, zLr, zLc, zLn, zLt, zLd]; omega)) ?_
     rw [(e1)]
     exact ⟨rfl, rfl⟩
    apply NDr.rd [0]
    ·intro fH TH
     refine NG.map0N (by omega) ?_
     exact ⟨rfl, rfl⟩
    apply NDr.pure
    ·refine NCall.call (b1) rfl rfl ?_
     exact ⟨rfl, rfl⟩
    apply NDr.pure
    ·refine ND.no (by omega) ?_
     exact ⟨rfl, rfl⟩
    refine NDr.w _ ?_
    refine NP.mk (by kernel_rfl) ?_
    refine NRet.mk [] rfl ⟨.refl _, ?_⟩
    rw [eS, g0, g1, t2, if_pos (by simp)]
 ·rw [dif_pos (by omega)] at eS
  refine NW.w ?_
  refine NW.w ?_
  rw [(ec)]
  refine ND.yes (by omega) ?_
  refine NRet.mk [] rfl ⟨.refl _, ?_⟩
  rw [eS]
end Go.Bv
namespace Go.Bv
set_option linter.unusedSimpArgs false
set_option linter.unusedVariables false
set_option maxHeartbeats 4000000
set_option maxRecDepth 20000
open Go Go.Proofs
open Go.Sort (swp siftDown heapBuild heapPop heapSort reverseLoop reverseRange order2 median medianAdjacent choosePivot Hint)
theorem siftDown_len (hi first : Nat) : ∀ (n root : Nat) (d : Array Item), hi - root ≤ n → (siftDown ltI hi first root d).size = d.size := by
 intro n
 induction n with
 | zero =>
  intro root d h
  rw [siftDown, dif_pos (by omega)]
 | succ n ih =>
  intro root d h
  rw [siftDown]
  split
  ·rfl
  ·split
   ·split
    ·rfl
    ·split
     ·rw [ih _ _ (by omega), Go.Sort.swp_size]
     ·rfl
   ·split
    ·rfl
    ·rw [ih _ _ (by omega), Go.Sort.swp_size]
theorem sift_len (hi first root : Nat) (d : Array Item) : (siftDown ltI hi first root d).size = d.size := siftDown_len hi first _ root d (Nat.le_refl _)
theorem toA (d : Array Item) : d.toList.toArray = d := by simp
theorem heapSort_walk (l : List Item) (a b : Nat) (hab : a ≤ b) (hb : b ≤ l.length) (hl : l.length ≤ 2 ^ 39) : ACalls Tryz.prog Nm.slices_heapSortCmpFunc_api_Item [.own 0 0 l.length, i64 a, i64 b, .fn Nm.item_compare []]
  [.row .vrow (.agg 8) (l.map itemA)] (.tup []) [.row .vrow (.agg 8) ((heapSort ltI l.toArray a b).toList.map itemA)] := by
 refine ACalls_of tab (dr_snd tab mixed) Nm.slices_heapSortCmpFunc_api_Item_h rfl (by kernel_rfl) (Nat.le_of_ble_eq_true rfl) rfl ?_
 have et : (((b : Int) - (a : Int)) - 1).tdiv 2 = (((b - a - 1) / 2 : Nat) : Int) := by
  by_cases h : a = b
  ·subst h; rw [Int.sub_self, Nat.sub_self]; decide
  ·rw [show (b : Int) - (a : Int) - 1 = ((b - a - 1 : Nat) : Int) by omega]
   exact (Int.ofNat_tdiv (b - a - 1) 2).symm
 have eh : (b : Int) - (a : Int) = ((b - a : Nat) : Int) := by omega
 refine NW.w ?_
 refine NW.w ?_
 refine NP.mk (by omega) ?_
 rw [(et)]
 refine NW.w ?_
 refine NLoop.mk [] [0, 3, 8, 9, 10, 11] (fun m vs H => ∃ (k : Nat) (d : List Item), k = m ∧ k ≤ 2 ^ 40 ∧ d.length = l.length ∧ heapPop ltI a (b - a) (heapBuild ltI (b - a) a k d.toArray) = heapSort ltI l.toArray a b ∧ H = [.row .vrow (.agg 8) (d.map itemA)] ∧
  vs = [.own 0 0 l.length, .fn Nm.item_compare [], i64 a, i64 0, i64 (b - a : Nat), i64 ((k : Int) - 1)]) rfl ?_ ?_
 ·exact Canon.mk [] rfl ⟨_, (b - a - 1) / 2 + 1, l, rfl, by omega, rfl, rfl, rfl, by rw [eh, show (((b - a - 1) / 2 + 1 : Nat) : Int) - 1 = (((b - a - 1) / 2 : Nat) : Int) by omega]; rfl⟩
 rintro m vs H ⟨k, d, rfl, hk, hdl, he, rfl, rfl⟩
 cases k with
 | succ k =>
  rw [show (((k + 1 : Nat) : Int) - 1) = (k : Int) by omega]
  have w := siftDown_walk d k (b - a) a (by omega) (by omega) (by omega)
  rw [hdl] at w
  have hs := sift_len (b - a) a k d.toArray
  refine ND.yes (by omega) ?_
  refine NCall.atA (w) ?_
  refine NW.w ?_
  refine Canon.mk [] rfl ⟨k, by omega, k, (siftDown ltI (b - a) a k d.toArray).toList, rfl, by omega, by simpa using hs.trans hdl, ?_, rfl, rfl⟩
  rw [← he, heapBuild, toA]
 | zero =>
  refine ND.no (by omega) ?_
  refine NW.w ?_
  refine NLoop.mk [] [0, 3, 8, 9, 12] (fun m vs H => ∃ (k : Nat) (d : List Item), k = m ∧ k ≤ b - a ∧ d.length = l.length ∧ heapPop ltI a k d.toArray = heapSort ltI l.toArray a b ∧ H = [.row .vrow (.agg 8) (d.map itemA)] ∧
   vs = [.own 0 0 l.length, .fn Nm.item_compare [], i64 a, i64 0, i64 ((k : Int) - 1)]) rfl ?_ ?_
  ·exact Canon.mk [] rfl ⟨_, b - a, d, rfl, Nat.le_refl _, hdl, he, rfl, rfl⟩
  rintro m vs H ⟨k, d, rfl, hk, hdl, he, rfl, rfl⟩
  cases k with
  | succ k =>
   rw [show (((k + 1 : Nat) : Int) - 1) = (k : Int) by omega]
   have k1 : a < d.length := by omega
   have k2 : a + k < d.length := by omega
   have e1 : Int.toNat ((a : Int) + (k : Int)) = a + k := by omega
   have w := siftDown_walk (swpL d a (a + k) k1 k2) 0 k a (by rw [swpL_len]; omega) (by omega) (by rw [swpL_len]; omega)
   rw [swpL_len, hdl, ← swpL_row k1 k2] at w
   have hs := sift_len k a 0 (swpL d a (a + k) k1 k2).toArray
   refine ND.yes (by omega) ?_
   refine NP.mk (by kernel_rfl) ?_
   apply NDr.any
   ·intro H'
    exact ⟨rfl, rfl⟩
   refine NDr.w _ ?_
   apply NDr.any
   ·intro H'
    exact ⟨rfl, rfl⟩
   refine NDr.w _ ?_
   refine NDr.w _ ?_
   apply NDr.pure
   ·refine NW.w ?_
    exact ⟨rfl, rfl⟩
   apply NDr.any
   ·intro H'
    exact ⟨rfl, rfl⟩
   refine NDr.w _ ?_
   refine NDr.w _ ?_
   apply NDr.pure
   ·refine NW.w ?_
    exact ⟨rfl, rfl⟩
   apply NDr.rd [0]
   ·intro fH TH
    refine NP.mk (by (simp only [zLm, zLa, zLr, zLc, zLn, zLt, zLd]; omega)) ?_
    rw [(e1)]
    exact ⟨rfl, rfl⟩
   apply NDr.rd [0]
   ·intro fH TH
    refine NG.map0N (by omega) ?_
    exact ⟨rfl, rfl⟩
   apply NDr.any
   ·intro H'
    exact ⟨rfl, rfl⟩
   refine NDr.w _ ?_
   apply NDr.rd [0]
   ·intro fH TH
    refine NP.mk (by (simp only [zLm, zLa, zLr, zLc, zLn, zLt, zLd]; omega)) ?_
    exact ⟨rfl, rfl⟩
   apply NDr.rd [0]
   ·intro fH TH
    refine NG.map0N (by omega) ?_
    exact ⟨rfl, rfl⟩
   apply NDr.rd [0]
   ·intro fH TH
    refine NP.mk (by (simp only [zLm, zLa, zLr, zLc, zLn, zLt, zLd]; omega)) ?_
    exact ⟨rfl, rfl⟩
   apply NDr.efw [0]
   ·refine NG.map0N (by omega) ?_
    exact ⟨rfl, rfl⟩
   ·repeat (first | exact True.intro | refine ⟨by first | exact rfl | exact True.intro, ?_⟩)
   apply NDr.efw []
   ·refine NP.mk (by (simp; omega)) ?_
    rw [(e1)]
    exact ⟨rfl, rfl⟩
   ·repeat (first | exact True.intro | refine ⟨by first | exact rfl | exact True.intro, ?_⟩)
   apply NDr.efw [0]
   ·refine NG.get (by simp; omega) ?_
    exact ⟨rfl, rfl⟩
   ·repeat (first | exact True.intro | refine ⟨by first | exact rfl | exact True.intro, ?_⟩)
   refine NP.mk (by kernel_rfl) ?_
   rw [Nat.zero_add, Nat.zero_add]
   refine NCall.atA (w) ?_
   refine NW.w ?_
   refine Canon.mk [] rfl ⟨k, by omega, k, (siftDown ltI k a 0 (swpL d a (a + k) k1 k2).toArray).toList, rfl, by omega, by simpa [swpL_len] using hs.trans (by simp [swpL_len, hdl]), ?_, rfl, rfl⟩
   rw [← he, heapPop, toA, swpL_eq k1 k2]
  | zero =>
   refine ND.no (by omega) ?_
   exact NRet.mk [] rfl ⟨.refl _, by rw [← he]; rfl⟩
theorem reverse_walk (l : List Item) (a b : Nat) (hab : a < b) (hb : b ≤ l.length) (hl : l.length ≤ 2 ^ 39) : ACalls Tryz.prog Nm.slices_reverseRangeCmpFunc_api_Item [.own 0 0 l.length, i64 a, i64 b, .fn Nm.item_compare []]
  [.row .vrow (.agg 8) (l.map itemA)] (.tup []) [.row .vrow (.agg 8) ((reverseRange l.toArray a b).toList.map itemA)] := by
 refine ACalls_of tab (dr_snd tab mixed) Nm.slices_reverseRangeCmpFunc_api_Item_h rfl (by kernel_rfl) (Nat.le_of_ble_eq_true rfl) rfl ?_
 refine NW.w ?_
 refine NLoop.mk [] [0, 8, 9] (fun m vs H => ∃ (i j : Nat) (d : List Item), a ≤ i ∧ j < b ∧ m = j - i ∧ d.length = l.length ∧ reverseLoop i j d.toArray = reverseRange l.toArray a b ∧ H = [.row .vrow (.agg 8) (d.map itemA)] ∧
  vs = [.own 0 0 l.length, i64 i, i64 j]) rfl ?_ ?_
 ·exact Canon.mk [] rfl ⟨b - 1 - a, a, b - 1, l, Nat.le_refl _, by omega, rfl, rfl, rfl, rfl, by rw [show ((b : Int) - 1) = ((b - 1 : Nat) : Int) by omega]; rfl⟩
 rintro m vs H ⟨i, j, d, hai, hjb, rfl, hdl, he, rfl, rfl⟩
 rw [← he]
 by_cases hij : i < j
 ·have k1 : i < d.length := by omega
  have k2 : j < d.length := by omega
  refine ND.yes (by omega) ?_
  refine NP.mk (by kernel_rfl) ?_
  apply NDr.any
  ·intro H'
   exact ⟨rfl, rfl⟩
  refine NDr.w _ ?_
  apply NDr.any
  ·intro H'
   exact ⟨rfl, rfl⟩
  refine NDr.w _ ?_
  apply NDr.any
  ·intro H'
   exact ⟨rfl, rfl⟩
  refine NDr.w _ ?_
  apply NDr.rd [0]
  ·intro fH TH
   refine NP.mk (by (simp only [zLm, zLa, zLr, zLc, zLn, zLt, zLd]; omega)) ?_
   exact ⟨rfl, rfl⟩
  apply NDr.rd [0]
  ·intro fH TH
   refine NG.map0N (by omega) ?_
   exact ⟨rfl, rfl⟩
  apply NDr.any
  ·intro H'
   exact ⟨rfl, rfl⟩
  refine NDr.w _ ?_
  apply NDr.rd [0]
  ·intro fH TH
   refine NP.mk (by (simp only [zLm, zLa, zLr, zLc, zLn, zLt, zLd]; omega)) ?_
   exact ⟨rfl, rfl⟩
  apply NDr.rd [0]
  ·intro fH TH
   refine NG.map0N (by omega) ?_
   exact ⟨rfl, rfl⟩
  apply NDr.rd [0]
  ·intro fH TH
   refine NP.mk (by (simp only [zLm, zLa, zLr, zLc, zLn, zLt, zLd]; omega)) ?_
   exact ⟨rfl, rfl⟩
  apply NDr.efw [0]
  ·refine NG.map0N (by omega) ?_
   exact ⟨rfl, rfl⟩
  ·repeat (first | exact True.intro | refine ⟨by first | exact rfl | exact True.intro, ?_⟩)
  apply NDr.efw []
  ·refine NP.mk (by (simp; omega)) ?_
   exact ⟨rfl, rfl⟩
  ·repeat (first | exact True.intro | refine ⟨by first | exact rfl | exact True.intro, ?_⟩)
  apply NDr.efw [0]
  ·refine NG.get (by simp; omega) ?_
   exact ⟨rfl, rfl⟩
  ·repeat (first | exact True.intro | refine ⟨by first | exact rfl | exact True.intro, ?_⟩)
  refine NP.mk (by kernel_rfl) ?_
  refine NW.w ?_
  refine NW.w ?_
  refine Canon.mk [] rfl ⟨j - 1 - (i + 1), by omega, i + 1, j - 1, swpL d i j k1 k2, by omega, by omega, rfl, (swpL_len k1 k2).trans hdl, ?_, ?_, by rw [show ((j : Int) - 1) = ((j - 1 : Nat) : Int) by omega]; rfl⟩
  ·rw [reverseLoop.eq_def (i := i), if_pos hij, swpL_eq k1 k2]
  ·rw [← swpL_row k1 k2, Nat.zero_add, Nat.zero_add]; rfl
 ·refine ND.no (by omega) ?_
  refine NRet.mk [] rfl ⟨.refl _, ?_⟩
  rw [reverseLoop, if_neg hij]
theorem order2_walk (l : List Item) (a b s : Nat) (ha : a < l.length) (hb : b < l.length) (hl : l.length ≤ 2 ^ 39) (hs : s ≤ 2 ^ 40) : ACalls Tryz.prog Nm.slices_order2CmpFunc_api_Item [.own 0 0 l.length, i64 a, i64 b, .ptr 1 0 0, .fn Nm.item_compare []]
  [.row .vrow (.agg 8) (l.map itemA), .row .box .leaf [i64 s]] (.tup [i64 (order2 ltI l.toArray a b s).1, i64 (order2 ltI l.toArray a b s).2.1]) [.row .vrow (.agg 8) (l.map itemA), .row .box .leaf [i64 (order2 ltI l.toArray a b s).2.2]] := by
 refine ACalls_of tab (dr_snd tab mixed) Nm.slices_order2CmpFunc_api_Item_h rfl (by kernel_rfl) (Nat.le_of_ble_eq_true rfl) rfl ?_
 have b1 := item_compare_walk l[b] l[a]
 unfold order2
 rw [getA ha, getA hb]
 cases t : ltI l[b] l[a] with
 | true =>
  have q := ltT t
  refine NP.mk (by kernel_rfl) ?_
  refine NDr.w _ ?_
  apply NDr.any
  ·intro H'
   exact ⟨rfl, rfl⟩
  refine NDr.w _ ?_
  apply NDr.rd [0]
  ·intro fH TH
   refine NP.mk (by (simp only [zLm, zLa, zLr, zLc, zLn, zLt, zLd]; omega)) ?_
   exact ⟨rfl, rfl⟩
  apply NDr.rd [0]
  ·intro fH TH
   refine NG.map0N (by omega) ?_
   exact ⟨rfl, rfl⟩
  apply NDr.any
  ·intro H'
   exact ⟨rfl, rfl⟩
  refine NDr.w _ ?_
  apply NDr.rd [0]
  ·intro fH TH
   refine NP.mk (by (simp only [zLm, zLa, zLr, zLc, zLn, zLt, zLd]; omega)) ?_
   exact ⟨rfl, rfl⟩
  apply NDr.rd [0]
  ·intro fH TH
   refine NG.map0N (by omega) ?_
   exact ⟨rfl, rfl⟩
  apply NDr.pure
  ·refine NCall.call (b1) rfl rfl ?_
   exact ⟨rfl, rfl⟩
  apply NDr.pure
  ·refine ND.yes (by omega) ?_
   exact ⟨rfl, rfl⟩
  refine NP.mk (by kernel_rfl) ?_
  refine NW.w ?_
  exact NRet.mk [] rfl ⟨.refl _, rfl⟩
 | false =>
  have q := ltF t
  refine NP.mk (by kernel_rfl) ?_
  refine NDr.w _ ?_
  apply NDr.any
  ·intro H'
   exact ⟨rfl, rfl⟩
  refine NDr.w _ ?_
  apply NDr.rd [0]
  ·intro fH TH
   refine NP.mk (by (simp only [zLm, zLa, zLr, zLc, zLn, zLt, zLd]; omega)) ?_
   exact ⟨rfl, rfl⟩
  apply NDr.rd [0]
  ·intro fH TH
   refine NG.map0N (by omega) ?_
   exact ⟨rfl, rfl⟩
  apply NDr.any
  ·intro H'
   exact ⟨rfl, rfl⟩
  refine NDr.w _ ?_
  apply NDr.rd [0]
  ·intro fH TH
   refine NP.mk (by (simp only [zLm, zLa, zLr, zLc, zLn, zLt, zLd]; omega)) ?_
   exact ⟨rfl, rfl⟩
  apply NDr.rd [0]
  ·intro fH TH
   refine NG.map0N (by omega) ?_
   exact ⟨rfl, rfl⟩
  apply NDr.pure
  ·refine NCall.call (b1) rfl rfl ?_
   exact ⟨rfl, rfl⟩
  apply NDr.pure
  ·refine ND.no (by omega) ?_
   exact ⟨rfl, rfl⟩
  refine NP.mk (by kernel_rfl) ?_
  exact NRet.mk [] rfl ⟨.refl _, rfl⟩
theorem median_walk (l : List Item) (a b c s : Nat) (ha : a < l.length) (hb : b < l.length) (hc : c < l.length) (hl : l.length ≤ 2 ^ 39) (hs : s ≤ 2 ^ 39) : ACalls Tryz.prog Nm.slices_medianCmpFunc_api_Item [.own 0 0 l.length, i64 a, i64 b, i64 c, .ptr 1 0 0, .fn Nm.item_compare []]
  [.row .vrow (.agg 8) (l.map itemA), .row .box .leaf [i64 s]] (i64 (median ltI l.toArray a b c s).1) [.row .vrow (.agg 8) (l.map itemA), .row .box .leaf [i64 (median ltI l.toArray a b c s).2]] := by
 refine ACalls_of tab (dr_snd tab mixed) Nm.slices_medianCmpFunc_api_Item_h rfl (by kernel_rfl) (Nat.le_of_ble_eq_true rfl) rfl ?_
 have m1 := Go.Sort.order2_mem ltI l.toArray a b s
 have n1 := Go.Sort.order2_count ltI l.toArray a b s
 have w1 := order2_walk l a b s ha hb hl (by omega)
 unfold median
 generalize order2 ltI l.toArray a b s = r1 at *
 have m2 := Go.Sort.order2_mem ltI l.toArray r1.2.1 c r1.2.2
 have n2 := Go.Sort.order2_count ltI l.toArray r1.2.1 c r1.2.2
 have w2 := order2_walk l r1.2.1 c r1.2.2 (by omega) hc hl (by omega)
 simp only
 generalize order2 ltI l.toArray r1.2.1 c r1.2.2 = r2 at *
 have w3 := order2_walk l r1.1 r2.1 r2.2.2 (by omega) (by omega) hl (by omega)
 generalize order2 ltI l.toArray r1.1 r2.1 r2.2.2 = r3 at *
 refine NCall.atA (w1) ?_
 refine NCall.atA (w2) ?_
 refine NCall.atA (w3) ?_
 exact NRet.mk [] rfl ⟨.refl _, rfl⟩
theorem medianAdj_walk (l : List Item) (a s : Nat) (h1 : 1 ≤ a) (ha : a + 1 < l.length) (hl : l.length ≤ 2 ^ 39) (hs : s ≤ 2 ^ 39) : ACalls Tryz.prog Nm.slices_medianAdjacentCmpFunc_api_Item [.own 0 0 l.length, i64 a, .ptr 1 0 0, .fn Nm.item_compare []]
  [.row .vrow (.agg 8) (l.map itemA), .row .box .leaf [i64 s]] (i64 (medianAdjacent ltI l.toArray a s).1) [.row .vrow (.agg 8) (l.map itemA), .row .box .leaf [i64 (medianAdjacent ltI l.toArray a s).2]] := by
 refine ACalls_of tab (dr_snd tab mixed) Nm.slices_medianAdjacentCmpFunc_api_Item_h rfl (by kernel_rfl) (Nat.le_of_ble_eq_true rfl) rfl ?_
 have w := median_walk l (a - 1) a (a + 1) s (by omega) (by omega) ha hl hs
 unfold medianAdjacent
 generalize median ltI l.toArray (a - 1) a (a + 1) s = r at *
 rw [show (((a - 1 : Nat)) : Int) = (a : Int) - 1 by omega, show (((a + 1 : Nat)) : Int) = (a : Int) + 1 by omega] at w
 refine NW.w ?_
 refine NW.w ?_
 refine NCall.atA (w) ?_
 exact NRet.mk [] rfl ⟨.refl _, rfl⟩
end Go.Bv
