/- Part of the lift: an abstract walk of the program's code, proved sound, and what it shows of this program. -/
import Derived.Test.YtjgmoglhbdgmpaaGreatPart8
import Derived.Sort.AssemblyPlain
import Derived.Test.YtjgmoglhbdgmpaaGreatPart6
namespace Go.Bv
set_option linter.unusedSimpArgs false
set_option linter.unusedVariables false
set_option maxHeartbeats 4000000
open Go Go.Proofs
theorem prefix_walk (s : List UInt8) (hs : s.length ≤ 2 ^ 47) : ACalls Tryz.prog Nm.zone_prefix [.str s] [] (.bool (pref s)) [] := by
 refine ACalls_of tab (dr_snd tab mixed) Nm.zone_prefix_h rfl (by kernel_rfl) (Nat.le_of_ble_eq_true rfl) rfl ?_
 rw [pref]
 by_cases h : s.length ≤ 16
 ·rw [decide_eq_true h, Bool.true_and]
  refine ND.no (by omega) ?_
  refine NLoop.mk [] [0, 8, 9, 10] (fun m vs H => ∃ i, i ≤ s.length ∧ m = s.length - i ∧ (∀ x ∈ s.take i, okc x = true) ∧ H = [] ∧ vs = [.str s, .str s, i64 s.length, i64 i]) rfl ?_ ?_
  ·exact Canon.mk [] rfl ⟨s.length, 0, Nat.zero_le _, rfl, by simp, rfl, rfl⟩
  ·rintro m vs H ⟨i, hi, rfl, ht, rfl, rfl⟩
   by_cases hil : i < s.length
   ·obtain ⟨f1, f2⟩ := all_step hil ht
    have fin : okc s[i] = true → ∃ m', m' < s.length - i ∧ ∃ i', i' ≤ s.length ∧ m' = s.length - i' ∧ (∀ x ∈ s.take i', okc x = true) ∧ ([] : List Blk) = [] ∧ [AV.str s, .str s, i64 s.length, i64 ((i + 1 : Nat) : Int)] = [.str s, .str s, i64 s.length, i64 i'] := fun h =>
     ⟨s.length - (i + 1), by omega, i + 1, by omega, rfl, f2 h, rfl, rfl⟩
    refine ND.yes (by omega) ?_
    refine NP.mk (by omega) ?_
    refine NB.dec (fun hk2 => ?_) (fun hk2 => ?_)
    ·refine NB.dec (fun hk3 => ?_) (fun hk3 => ?_)
     ·refine NB.dec (fun hk4 => ?_) (fun hk4 => ?_)
      ·refine NW.w ?_
       exact (Canon.mk [] rfl (fin (by grind [okc])))
      refine NRet.boolE (b := false) ?_ (NRet.mk [] rfl ⟨.refl _, rfl⟩)
      grind [okc, pref]
     refine NB.dec (fun hk5 => ?_) (fun hk5 => ?_)
     ·refine ND.no (by omega) ?_
      refine NRet.boolE (b := false) ?_ (NRet.mk [] rfl ⟨.refl _, rfl⟩)
      grind [okc, pref]
     refine NW.w ?_
     exact (Canon.mk [] rfl (fin (by grind [okc])))
    refine NB.dec (fun hk7 => ?_) (fun hk7 => ?_)
    ·refine ND.no (by omega) ?_
     refine ND.yes (by omega) ?_
     refine ND.no (by omega) ?_
     refine NRet.boolE (b := false) ?_ (NRet.mk [] rfl ⟨.refl _, rfl⟩)
     grind [okc, pref]
    refine NW.w ?_
    exact (Canon.mk [] rfl (fin (by grind [okc])))
   ·have : i = s.length := by omega
    subst this
    rw [all_end ht]
    refine ND.no (by omega) ?_
    exact NRet.mk [] rfl ⟨.refl _, rfl⟩
 ·rw [decide_eq_false h, Bool.false_and]
  refine ND.yes (by omega) ?_
  exact NRet.mk [] rfl ⟨.refl _, rfl⟩
theorem key_walk (s : List UInt8) (hs : s.length ≤ 2 ^ 47) : ACalls Tryz.prog Nm.zone_Key [.str s] [] (.bool (keyB s)) [] := by
 refine ACalls_of tab (dr_snd tab mixed) Nm.zone_Key_h rfl (by kernel_rfl) (Nat.le_of_ble_eq_true rfl) rfl ?_
 rw [keyB]
 refine NB.dec (fun hk1 => ?_) (fun hk1 => ?_)
 ·refine NRet.boolE (b := false) ?_ (NRet.mk [] rfl ⟨.refl _, rfl⟩)
  grind
 refine NCall.call (prefix_walk s hs) rfl rfl ?_
 refine NRet.boolE ?_ (NRet.mk [] rfl ⟨.refl _, rfl⟩)
 grind
theorem prefix8_walk (s : List UInt8) (hs : s.length ≤ 2 ^ 47) : ACalls Tryz.prog Nm.ref08_Prefix [.str s] [] (.bool (pref s)) [] := by
 refine ACalls_of tab (dr_snd tab mixed) Nm.ref08_Prefix_h rfl (by kernel_rfl) (Nat.le_of_ble_eq_true rfl) rfl ?_
 refine NLoop.mk [] [0, 3] (fun m vs H => ∃ i, i ≤ s.length ∧ m = s.length - i ∧ (∀ x ∈ s.take i, okc x = true) ∧ H = [] ∧ vs = [.str s, i64 i]) rfl ?_ ?_
 ·exact Canon.mk [] rfl ⟨s.length, 0, Nat.zero_le _, rfl, by simp, rfl, rfl⟩
 ·rintro m vs H ⟨i, hi, rfl, ht, rfl, rfl⟩
  by_cases hil : i < s.length
  ·obtain ⟨f1, f2⟩ := all_step hil ht
   have fin : okc s[i] = true → ∃ m', m' < s.length - i ∧ ∃ i', i' ≤ s.length ∧ m' = s.length - i' ∧ (∀ x ∈ s.take i', okc x = true) ∧ ([] : List Blk) = [] ∧ [AV.str s, i64 ((i + 1 : Nat) : Int)] = [.str s, i64 i'] := fun h =>
    ⟨s.length - (i + 1), by omega, i + 1, by omega, rfl, f2 h, rfl, rfl⟩
   refine ND.yes (by omega) ?_
   refine NP.mk (by omega) ?_
   refine NB.dec (fun hk2 => ?_) (fun hk2 => ?_)
   ·refine NW.w ?_
    exact (Canon.mk [] rfl (fin (by grind [okc])))
   refine NB.dec (fun hk3 => ?_) (fun hk3 => ?_)
   ·refine NB.dec (fun hk4 => ?_) (fun hk4 => ?_)
    ·refine NW.w ?_
     exact (Canon.mk [] rfl (fin (by grind [okc])))
    refine NB.dec (fun hk5 => ?_) (fun hk5 => ?_)
    ·refine NB.dec (fun hk6 => ?_) (fun hk6 => ?_)
     ·refine NW.w ?_
      exact (Canon.mk [] rfl (fin (by grind [okc])))
     refine NRet.boolE (b := false) ?_ (NRet.mk [] rfl ⟨.refl _, rfl⟩)
     grind [okc, pref]
    refine NRet.boolE (b := false) ?_ (NRet.mk [] rfl ⟨.refl _, rfl⟩)
    grind [okc, pref]
   refine ND.no (by omega) ?_
   refine NRet.boolE (b := false) ?_ (NRet.mk [] rfl ⟨.refl _, rfl⟩)
   grind [okc, pref]
  ·have : i = s.length := by omega
   subst this
   rw [pref]
   rw [all_end ht]
   refine ND.no (by omega) ?_
   refine NB.dec (fun hk2 => ?_) (fun hk2 => ?_)
   ·refine NRet.boolE (b := true) ?_ (NRet.mk [] rfl ⟨.refl _, rfl⟩)
    grind
   refine NRet.boolE (b := false) ?_ (NRet.mk [] rfl ⟨.refl _, rfl⟩)
   grind
theorem key8_walk (s : List UInt8) (hs : s.length ≤ 2 ^ 47) : ACalls Tryz.prog Nm.ref08_Key [.str s] [] (.bool (keyB s)) [] := by
 refine ACalls_of tab (dr_snd tab mixed) Nm.ref08_Key_h rfl (by kernel_rfl) (Nat.le_of_ble_eq_true rfl) rfl ?_
 rw [keyB]
 by_cases h : s = []
 ·subst h
  refine ND.no (by (simp only [zLm, zLa, zLr, zLc, zLn, zLt, zLd]; omega)) ?_
  exact NRet.mk [] rfl ⟨.refl _, rfl⟩
 ·have := List.length_pos_iff.2 h
  rw [decide_eq_true h, Bool.true_and]
  refine ND.yes (by omega) ?_
  refine NCall.call (prefix8_walk s hs) rfl rfl ?_
  exact NRet.mk [] rfl ⟨.refl _, rfl⟩
def smItem (x : Item) : Prop := x.key.length ≤ 2 ^ 40 ∧ x.field.length ≤ 2 ^ 40 ∧ x.elem.length ≤ 2 ^ 40
theorem itemFormed_walk (x : Item) (hx : smItem x) : ACalls Tryz.prog Nm.item_Formed [itemA x] [] (.bool (itemOk x)) [] := by
 refine ACalls_of tab (dr_snd tab mixed) Nm.item_Formed_h rfl (by kernel_rfl) (Nat.le_of_ble_eq_true rfl) rfl ?_
 obtain ⟨h1, h2, h3⟩ := hx
 have k1 := key_walk x.key (by omega)
 have k2 := key_walk x.field (by omega)
 refine NCall.call (k1) rfl rfl ?_
 refine NB.mk (fun hk1 => ?_) (fun hk1 => ?_)
 ·refine NB.dec (fun hk2 => ?_) (fun hk2 => ?_)
  ·refine NB.dec (fun hk3 => ?_) (fun hk3 => ?_)
   ·refine NRet.boolE (b := false) ?_ (NRet.mk [] rfl ⟨.refl _, rfl⟩)
    grind [itemOk, kindOk, dotOk, keyB, pref]
   refine NB.dec (fun hk4 => ?_) (fun hk4 => ?_)
   ·refine NB.dec (fun hk5 => ?_) (fun hk5 => ?_)
    ·refine NB.dec (fun hk6 => ?_) (fun hk6 => ?_)
     ·refine NB.dec (fun hk7 => ?_) (fun hk7 => ?_)
      ·refine NB.dec (fun hk8 => ?_) (fun hk8 => ?_)
       ·refine NB.dec (fun hk9 => ?_) (fun hk9 => ?_)
        ·refine NB.dec (fun hk10 => ?_) (fun hk10 => ?_)
         ·refine NB.dec (fun hk11 => ?_) (fun hk11 => ?_)
          ·refine NRet.boolE (b := true) ?_ (NRet.mk [] rfl ⟨.refl _, rfl⟩)
           grind [itemOk, kindOk, dotOk, keyB, pref]
          refine NRet.boolE (b := false) ?_ (NRet.mk [] rfl ⟨.refl _, rfl⟩)
          grind [itemOk, kindOk, dotOk, keyB, pref]
         refine NRet.boolE (b := false) ?_ (NRet.mk [] rfl ⟨.refl _, rfl⟩)
         grind [itemOk, kindOk, dotOk, keyB, pref]
        refine NRet.boolE (b := false) ?_ (NRet.mk [] rfl ⟨.refl _, rfl⟩)
        grind [itemOk, kindOk, dotOk, keyB, pref]
       refine NRet.boolE (b := false) ?_ (NRet.mk [] rfl ⟨.refl _, rfl⟩)
       grind [itemOk, kindOk, dotOk, keyB, pref]
      refine NRet.boolE (b := false) ?_ (NRet.mk [] rfl ⟨.refl _, rfl⟩)
      grind [itemOk, kindOk, dotOk, keyB, pref]
     refine NRet.boolE (b := false) ?_ (NRet.mk [] rfl ⟨.refl _, rfl⟩)
     grind [itemOk, kindOk, dotOk, keyB, pref]
    refine NRet.boolE (b := false) ?_ (NRet.mk [] rfl ⟨.refl _, rfl⟩)
    grind [itemOk, kindOk, dotOk, keyB, pref]
   refine NB.dec (fun hk12 => ?_) (fun hk12 => ?_)
   ·refine NB.dec (fun hk13 => ?_) (fun hk13 => ?_)
    ·refine NB.dec (fun hk14 => ?_) (fun hk14 => ?_)
     ·refine NB.dec (fun hk15 => ?_) (fun hk15 => ?_)
      ·refine NB.dec (fun hk16 => ?_) (fun hk16 => ?_)
       ·refine NB.dec (fun hk17 => ?_) (fun hk17 => ?_)
        ·refine NB.dec (fun hk18 => ?_) (fun hk18 => ?_)
         ·refine NB.dec (fun hk19 => ?_) (fun hk19 => ?_)
          ·refine NRet.boolE (b := true) ?_ (NRet.mk [] rfl ⟨.refl _, rfl⟩)
           grind [itemOk, kindOk, dotOk, keyB, pref]
          refine NRet.boolE (b := false) ?_ (NRet.mk [] rfl ⟨.refl _, rfl⟩)
          grind [itemOk, kindOk, dotOk, keyB, pref]
         refine NRet.boolE (b := false) ?_ (NRet.mk [] rfl ⟨.refl _, rfl⟩)
         grind [itemOk, kindOk, dotOk, keyB, pref]
        refine NRet.boolE (b := false) ?_ (NRet.mk [] rfl ⟨.refl _, rfl⟩)
        grind [itemOk, kindOk, dotOk, keyB, pref]
       refine NRet.boolE (b := false) ?_ (NRet.mk [] rfl ⟨.refl _, rfl⟩)
       grind [itemOk, kindOk, dotOk, keyB, pref]
      refine NRet.boolE (b := false) ?_ (NRet.mk [] rfl ⟨.refl _, rfl⟩)
      grind [itemOk, kindOk, dotOk, keyB, pref]
     refine NRet.boolE (b := false) ?_ (NRet.mk [] rfl ⟨.refl _, rfl⟩)
     grind [itemOk, kindOk, dotOk, keyB, pref]
    refine NRet.boolE (b := false) ?_ (NRet.mk [] rfl ⟨.refl _, rfl⟩)
    grind [itemOk, kindOk, dotOk, keyB, pref]
   refine NB.dec (fun hk20 => ?_) (fun hk20 => ?_)
   ·refine NB.dec (fun hk21 => ?_) (fun hk21 => ?_)
    ·refine NB.dec (fun hk22 => ?_) (fun hk22 => ?_)
     ·refine NB.dec (fun hk23 => ?_) (fun hk23 => ?_)
      ·refine NB.dec (fun hk24 => ?_) (fun hk24 => ?_)
       ·refine NB.dec (fun hk25 => ?_) (fun hk25 => ?_)
        ·refine NB.dec (fun hk26 => ?_) (fun hk26 => ?_)
         ·refine NB.dec (fun hk27 => ?_) (fun hk27 => ?_)
          ·refine NRet.boolE (b := true) ?_ (NRet.mk [] rfl ⟨.refl _, rfl⟩)
           grind [itemOk, kindOk, dotOk, keyB, pref]
          refine NRet.boolE (b := false) ?_ (NRet.mk [] rfl ⟨.refl _, rfl⟩)
          grind [itemOk, kindOk, dotOk, keyB, pref]
         refine NRet.boolE (b := false) ?_ (NRet.mk [] rfl ⟨.refl _, rfl⟩)
         grind [itemOk, kindOk, dotOk, keyB, pref]
        refine NRet.boolE (b := false) ?_ (NRet.mk [] rfl ⟨.refl _, rfl⟩)
        grind [itemOk, kindOk, dotOk, keyB, pref]
       refine NRet.boolE (b := false) ?_ (NRet.mk [] rfl ⟨.refl _, rfl⟩)
       grind [itemOk, kindOk, dotOk, keyB, pref]
      refine NRet.boolE (b := false) ?_ (NRet.mk [] rfl ⟨.refl _, rfl⟩)
      grind [itemOk, kindOk, dotOk, keyB, pref]
     refine NRet.boolE (b := false) ?_ (NRet.mk [] rfl ⟨.refl _, rfl⟩)
     grind [itemOk, kindOk, dotOk, keyB, pref]
    refine NRet.boolE (b := false) ?_ (NRet.mk [] rfl ⟨.refl _, rfl⟩)
    grind [itemOk, kindOk, dotOk, keyB, pref]
   refine NRet.boolE (b := false) ?_ (NRet.mk [] rfl ⟨.refl _, rfl⟩)
   grind [itemOk, kindOk, dotOk, keyB, pref]
  refine NCall.call (k2) rfl rfl ?_
  refine NB.mk (fun hk28 => ?_) (fun hk28 => ?_)
  ·refine NB.dec (fun hk29 => ?_) (fun hk29 => ?_)
   ·refine NRet.boolE (b := false) ?_ (NRet.mk [] rfl ⟨.refl _, rfl⟩)
    grind [itemOk, kindOk, dotOk, keyB, pref]
   refine NB.dec (fun hk30 => ?_) (fun hk30 => ?_)
   ·refine NB.dec (fun hk31 => ?_) (fun hk31 => ?_)
    ·refine NB.dec (fun hk32 => ?_) (fun hk32 => ?_)
     ·refine NB.dec (fun hk33 => ?_) (fun hk33 => ?_)
      ·refine NB.dec (fun hk34 => ?_) (fun hk34 => ?_)
       ·refine NB.dec (fun hk35 => ?_) (fun hk35 => ?_)
        ·refine NB.dec (fun hk36 => ?_) (fun hk36 => ?_)
         ·refine NB.dec (fun hk37 => ?_) (fun hk37 => ?_)
          ·refine NRet.boolE (b := true) ?_ (NRet.mk [] rfl ⟨.refl _, rfl⟩)
           grind [itemOk, kindOk, dotOk, keyB, pref]
          refine NRet.boolE (b := false) ?_ (NRet.mk [] rfl ⟨.refl _, rfl⟩)
          grind [itemOk, kindOk, dotOk, keyB, pref]
         refine NRet.boolE (b := false) ?_ (NRet.mk [] rfl ⟨.refl _, rfl⟩)
         grind [itemOk, kindOk, dotOk, keyB, pref]
        refine NRet.boolE (b := false) ?_ (NRet.mk [] rfl ⟨.refl _, rfl⟩)
        grind [itemOk, kindOk, dotOk, keyB, pref]
       refine NRet.boolE (b := false) ?_ (NRet.mk [] rfl ⟨.refl _, rfl⟩)
       grind [itemOk, kindOk, dotOk, keyB, pref]
      refine NRet.boolE (b := false) ?_ (NRet.mk [] rfl ⟨.refl _, rfl⟩)
      grind [itemOk, kindOk, dotOk, keyB, pref]
     refine NRet.boolE (b := false) ?_ (NRet.mk [] rfl ⟨.refl _, rfl⟩)
     grind [itemOk, kindOk, dotOk, keyB, pref]
    refine NRet.boolE (b := false) ?_ (NRet.mk [] rfl ⟨.refl _, rfl⟩)
    grind [itemOk, kindOk, dotOk, keyB, pref]
   refine NB.dec (fun hk38 => ?_) (fun hk38 => ?_)
   ·refine NB.dec (fun hk39 => ?_) (fun hk39 => ?_)
    ·refine NB.dec (fun hk40 => ?_) (fun hk40 => ?_)
     ·refine NB.dec (fun hk41 => ?_) (fun hk41 => ?_)
      ·refine NB.dec (fun hk42 => ?_) (fun hk42 => ?_)
       ·refine NB.dec (fun hk43 => ?_) (fun hk43 => ?_)
        ·refine NB.dec (fun hk44 => ?_) (fun hk44 => ?_)
         ·refine NB.dec (fun hk45 => ?_) (fun hk45 => ?_)
          ·refine NRet.boolE (b := true) ?_ (NRet.mk [] rfl ⟨.refl _, rfl⟩)
           grind [itemOk, kindOk, dotOk, keyB, pref]
          refine NRet.boolE (b := false) ?_ (NRet.mk [] rfl ⟨.refl _, rfl⟩)
          grind [itemOk, kindOk, dotOk, keyB, pref]
         refine NRet.boolE (b := false) ?_ (NRet.mk [] rfl ⟨.refl _, rfl⟩)
         grind [itemOk, kindOk, dotOk, keyB, pref]
        refine NRet.boolE (b := false) ?_ (NRet.mk [] rfl ⟨.refl _, rfl⟩)
        grind [itemOk, kindOk, dotOk, keyB, pref]
       refine NRet.boolE (b := false) ?_ (NRet.mk [] rfl ⟨.refl _, rfl⟩)
       grind [itemOk, kindOk, dotOk, keyB, pref]
      refine NRet.boolE (b := false) ?_ (NRet.mk [] rfl ⟨.refl _, rfl⟩)
      grind [itemOk, kindOk, dotOk, keyB, pref]
     refine NRet.boolE (b := false) ?_ (NRet.mk [] rfl ⟨.refl _, rfl⟩)
     grind [itemOk, kindOk, dotOk, keyB, pref]
    refine NRet.boolE (b := false) ?_ (NRet.mk [] rfl ⟨.refl _, rfl⟩)
    grind [itemOk, kindOk, dotOk, keyB, pref]
   refine NB.dec (fun hk46 => ?_) (fun hk46 => ?_)
   ·refine NB.dec (fun hk47 => ?_) (fun hk47 => ?_)
    ·refine NB.dec (fun hk48 => ?_) (fun hk48 => ?_)
     ·refine NB.dec (fun hk49 => ?_) (fun hk49 => ?_)
      ·refine NB.dec (fun hk50 => ?_) (fun hk50 => ?_)
       ·refine NB.dec (fun hk51 => ?_) (fun hk51 => ?_)
        ·refine NB.dec (fun hk52 => ?_) (fun hk52 => ?_)
         ·refine NB.dec (fun hk53 => ?_) (fun hk53 => ?_)
          ·refine NRet.boolE (b := true) ?_ (NRet.mk [] rfl ⟨.refl _, rfl⟩)
           grind [itemOk, kindOk, dotOk, keyB, pref]
          refine NRet.boolE (b := false) ?_ (NRet.mk [] rfl ⟨.refl _, rfl⟩)
          grind [itemOk, kindOk, dotOk, keyB, pref]
         refine NRet.boolE (b := false) ?_ (NRet.mk [] rfl ⟨.refl _, rfl⟩)
         grind [itemOk, kindOk, dotOk, keyB, pref]
        refine NRet.boolE (b := false) ?_ (NRet.mk [] rfl ⟨.refl _, rfl⟩)
        grind [itemOk, kindOk, dotOk, keyB, pref]
       refine NRet.boolE (b := false) ?_ (NRet.mk [] rfl ⟨.refl _, rfl⟩)
       grind [itemOk, kindOk, dotOk, keyB, pref]
      refine NRet.boolE (b := false) ?_ (NRet.mk [] rfl ⟨.refl _, rfl⟩)
      grind [itemOk, kindOk, dotOk, keyB, pref]
     refine NRet.boolE (b := false) ?_ (NRet.mk [] rfl ⟨.refl _, rfl⟩)
     grind [itemOk, kindOk, dotOk, keyB, pref]
    refine NRet.boolE (b := false) ?_ (NRet.mk [] rfl ⟨.refl _, rfl⟩)
    grind [itemOk, kindOk, dotOk, keyB, pref]
   refine NRet.boolE (b := false) ?_ (NRet.mk [] rfl ⟨.refl _, rfl⟩)
   grind [itemOk, kindOk, dotOk, keyB, pref]
  refine NRet.boolE (b := false) ?_ (NRet.mk [] rfl ⟨.refl _, rfl⟩)
  grind [itemOk, kindOk, dotOk, keyB, pref]
 refine NRet.boolE (b := false) ?_ (NRet.mk [] rfl ⟨.refl _, rfl⟩)
 grind [itemOk, kindOk, dotOk, keyB, pref]
theorem item9_walk (x : Item) (hx : smItem x) : ACalls Tryz.prog Nm.ref09_Formed [itemA x] [] (.bool (itemOk x)) [] := by
 refine ACalls_of tab (dr_snd tab mixed) Nm.ref09_Formed_h rfl (by kernel_rfl) (Nat.le_of_ble_eq_true rfl) rfl ?_
 obtain ⟨h1, h2, h3⟩ := hx
 have k1 := key8_walk x.key (by omega)
 have k2 := prefix8_walk x.field (by omega)
 refine NB.dec (fun hk1 => ?_) (fun hk1 => ?_)
 ·refine NRet.boolE (b := false) ?_ (NRet.mk [] rfl ⟨.refl _, rfl⟩)
  grind [itemOk, kindOk, dotOk, keyB, pref]
 refine NB.dec (fun hk2 => ?_) (fun hk2 => ?_)
 ·refine NRet.boolE (b := false) ?_ (NRet.mk [] rfl ⟨.refl _, rfl⟩)
  grind [itemOk, kindOk, dotOk, keyB, pref]
 refine NB.dec (fun hk3 => ?_) (fun hk3 => ?_)
 ·refine NRet.boolE (b := false) ?_ (NRet.mk [] rfl ⟨.refl _, rfl⟩)
  grind [itemOk, kindOk, dotOk, keyB, pref]
 refine NB.dec (fun hk4 => ?_) (fun hk4 => ?_)
 ·refine NRet.boolE (b := false) ?_ (NRet.mk [] rfl ⟨.refl _, rfl⟩)
  grind [itemOk, kindOk, dotOk, keyB, pref]
 refine NB.dec (fun hk5 => ?_) (fun hk5 => ?_)
 ·refine NRet.boolE (b := false) ?_ (NRet.mk [] rfl ⟨.refl _, rfl⟩)
  grind [itemOk, kindOk, dotOk, keyB, pref]
 refine NB.dec (fun hk6 => ?_) (fun hk6 => ?_)
 ·refine NRet.boolE (b := false) ?_ (NRet.mk [] rfl ⟨.refl _, rfl⟩)
  grind [itemOk, kindOk, dotOk, keyB, pref]
 refine NCall.call (k1) rfl rfl ?_
 refine NB.mk (fun hk7 => ?_) (fun hk7 => ?_)
 ·refine NCall.call (k2) rfl rfl ?_
  refine NB.mk (fun hk8 => ?_) (fun hk8 => ?_)
  ·refine NB.dec (fun hk9 => ?_) (fun hk9 => ?_)
   ·refine NRet.boolE (b := false) ?_ (NRet.mk [] rfl ⟨.refl _, rfl⟩)
    grind [itemOk, kindOk, dotOk, keyB, pref]
   refine NB.dec (fun hk10 => ?_) (fun hk10 => ?_)
   ·refine NB.dec (fun hk11 => ?_) (fun hk11 => ?_)
    ·refine NRet.boolE (b := true) ?_ (NRet.mk [] rfl ⟨.refl _, rfl⟩)
     grind [itemOk, kindOk, dotOk, keyB, pref]
    refine ND.no (by omega) ?_
    refine NRet.boolE (b := false) ?_ (NRet.mk [] rfl ⟨.refl _, rfl⟩)
    grind [itemOk, kindOk, dotOk, keyB, pref]
   refine NB.dec (fun hk13 => ?_) (fun hk13 => ?_)
   ·refine NB.dec (fun hk14 => ?_) (fun hk14 => ?_)
    ·refine NRet.boolE (b := true) ?_ (NRet.mk [] rfl ⟨.refl _, rfl⟩)
     grind [itemOk, kindOk, dotOk, keyB, pref]
    refine ND.no (by omega) ?_
    refine NRet.boolE (b := false) ?_ (NRet.mk [] rfl ⟨.refl _, rfl⟩)
    grind [itemOk, kindOk, dotOk, keyB, pref]
   refine NB.dec (fun hk16 => ?_) (fun hk16 => ?_)
   ·refine NB.dec (fun hk17 => ?_) (fun hk17 => ?_)
    ·refine NRet.boolE (b := true) ?_ (NRet.mk [] rfl ⟨.refl _, rfl⟩)
     grind (splits := 20) [itemOk, kindOk, dotOk, keyB, pref, List.length_eq_zero_iff]
    refine NRet.boolE (b := false) ?_ (NRet.mk [] rfl ⟨.refl _, rfl⟩)
    grind [itemOk, kindOk, dotOk, keyB, pref]
   refine NRet.boolE (b := false) ?_ (NRet.mk [] rfl ⟨.refl _, rfl⟩)
   grind [itemOk, kindOk, dotOk, keyB, pref]
  refine NRet.boolE (b := false) ?_ (NRet.mk [] rfl ⟨.refl _, rfl⟩)
  grind [itemOk, kindOk, dotOk, keyB, pref]
 refine NRet.boolE (b := false) ?_ (NRet.mk [] rfl ⟨.refl _, rfl⟩)
 grind [itemOk, kindOk, dotOk, keyB, pref]
theorem dot_walk' (d : Dot) : ACalls Tryz.prog Nm.eff_dot [dotA d] [] (.bool (dotOk d)) [] := by
 refine ACalls_of tab (dr_snd tab mixed) Nm.eff_dot_h rfl (by kernel_rfl) (Nat.le_of_ble_eq_true rfl) rfl ?_
 rw [dotOk]
 refine NB.dec (fun hk1 => ?_) (fun hk1 => ?_)
 ·refine NB.dec (fun hk2 => ?_) (fun hk2 => ?_)
  ·refine NB.dec (fun hk3 => ?_) (fun hk3 => ?_)
   ·refine NB.dec (fun hk4 => ?_) (fun hk4 => ?_)
    ·refine NB.dec (fun hk5 => ?_) (fun hk5 => ?_)
     ·refine NB.dec (fun hk6 => ?_) (fun hk6 => ?_)
      ·refine NRet.boolE (b := true) ?_ (NRet.mk [] rfl ⟨.refl _, rfl⟩)
       (simp only [decide_eq_true_eq, decide_eq_false_iff_not, eq_comm (a := true), eq_comm (a := false)]; omega)
      refine NRet.boolE (b := false) ?_ (NRet.mk [] rfl ⟨.refl _, rfl⟩)
      (simp only [decide_eq_true_eq, decide_eq_false_iff_not, eq_comm (a := true), eq_comm (a := false)]; omega)
     refine NRet.boolE (b := false) ?_ (NRet.mk [] rfl ⟨.refl _, rfl⟩)
     (simp only [decide_eq_true_eq, decide_eq_false_iff_not, eq_comm (a := true), eq_comm (a := false)]; omega)
    refine NRet.boolE (b := false) ?_ (NRet.mk [] rfl ⟨.refl _, rfl⟩)
    (simp only [decide_eq_true_eq, decide_eq_false_iff_not, eq_comm (a := true), eq_comm (a := false)]; omega)
   refine NRet.boolE (b := false) ?_ (NRet.mk [] rfl ⟨.refl _, rfl⟩)
   (simp only [decide_eq_true_eq, decide_eq_false_iff_not, eq_comm (a := true), eq_comm (a := false)]; omega)
  refine NRet.boolE (b := false) ?_ (NRet.mk [] rfl ⟨.refl _, rfl⟩)
  (simp only [decide_eq_true_eq, decide_eq_false_iff_not, eq_comm (a := true), eq_comm (a := false)]; omega)
 refine NRet.boolE (b := false) ?_ (NRet.mk [] rfl ⟨.refl _, rfl⟩)
 (simp only [decide_eq_true_eq, decide_eq_false_iff_not, eq_comm (a := true), eq_comm (a := false)]; omega)
theorem may10_walk (d : Dot) : ACalls Tryz.prog Nm.ref10_may [dotA d] [] (.bool (dotOk d)) [] := by
 refine ACalls_of tab (dr_snd tab mixed) Nm.ref10_may_h rfl (by kernel_rfl) (Nat.le_of_ble_eq_true rfl) rfl ?_
 have e : itemOk ⟨[97], [], 1, [], 0, d⟩ = dotOk d := by simp [itemOk, keyB, pref, okc, kindOk]
 have h := item9_walk ⟨[97], [], 1, [], 0, d⟩ ⟨by simp, by simp, by simp⟩
 rw [e] at h
 refine NCall.call (h) rfl rfl ?_
 exact NRet.mk [] rfl ⟨.refl _, rfl⟩
theorem ahead10_walk (a b : Dot) : ACalls Tryz.prog Nm.ref10_Ahead [dotA a, dotA b] [] (.bool (dlt a b)) [] := by
 refine ACalls_of tab (dr_snd tab mixed) Nm.ref10_Ahead_h rfl (by kernel_rfl) (Nat.le_of_ble_eq_true rfl) rfl ?_
 rw [dlt]
 refine NB.dec (fun hk1 => ?_) (fun hk1 => ?_)
 ·refine NB.dec (fun hk2 => ?_) (fun hk2 => ?_)
  ·refine NB.dec (fun hk3 => ?_) (fun hk3 => ?_)
   ·refine NRet.boolE (b := true) ?_ (NRet.mk [] rfl ⟨.refl _, rfl⟩)
    (simp only [decide_eq_true_eq, decide_eq_false_iff_not, eq_comm (a := true), eq_comm (a := false)]; omega)
   refine NRet.boolE (b := false) ?_ (NRet.mk [] rfl ⟨.refl _, rfl⟩)
   (simp only [decide_eq_true_eq, decide_eq_false_iff_not, eq_comm (a := true), eq_comm (a := false)]; omega)
  refine NB.dec (fun hk4 => ?_) (fun hk4 => ?_)
  ·refine NRet.boolE (b := true) ?_ (NRet.mk [] rfl ⟨.refl _, rfl⟩)
   (simp only [decide_eq_true_eq, decide_eq_false_iff_not, eq_comm (a := true), eq_comm (a := false)]; omega)
  refine NRet.boolE (b := false) ?_ (NRet.mk [] rfl ⟨.refl _, rfl⟩)
  (simp only [decide_eq_true_eq, decide_eq_false_iff_not, eq_comm (a := true), eq_comm (a := false)]; omega)
 refine NB.dec (fun hk5 => ?_) (fun hk5 => ?_)
 ·refine NRet.boolE (b := true) ?_ (NRet.mk [] rfl ⟨.refl _, rfl⟩)
  (simp only [decide_eq_true_eq, decide_eq_false_iff_not, eq_comm (a := true), eq_comm (a := false)]; omega)
 refine NRet.boolE (b := false) ?_ (NRet.mk [] rfl ⟨.refl _, rfl⟩)
 (simp only [decide_eq_true_eq, decide_eq_false_iff_not, eq_comm (a := true), eq_comm (a := false)]; omega)
theorem made10_walk (node seq : Int) (e : Eff) : ACalls Tryz.prog Nm.ref10_Made [i64 node, i64 seq, effA e] [] (itemA (made node seq e)) [] := by
 refine ACalls_of tab (dr_snd tab mixed) Nm.ref10_Made_h rfl (by kernel_rfl) (Nat.le_of_ble_eq_true rfl) rfl ?_
 exact NRet.mk [] rfl ⟨.refl _, rfl⟩
theorem isNaN_walk (a : Int) : ACalls Tryz.prog Nm.cmp_isNaN_int [i64 a] [] (.bool false) [] := by
 refine ACalls_of tab (dr_snd tab mixed) Nm.cmp_isNaN_int_h rfl (by kernel_rfl) (Nat.le_of_ble_eq_true rfl) rfl ?_
 refine ND.yes (by omega) ?_
 exact NRet.mk [] rfl ⟨.refl _, rfl⟩
def cmpI (a b : Int) : Int := if a < b then -1 else if b < a then 1 else 0
theorem compare_walk (a b : Int) : ACalls Tryz.prog Nm.cmp_Compare_int [i64 a, i64 b] [] (i64 (cmpI a b)) [] := by
 refine ACalls_of tab (dr_snd tab mixed) Nm.cmp_Compare_int_h rfl (by kernel_rfl) (Nat.le_of_ble_eq_true rfl) rfl ?_
 have h1 := isNaN_walk a
 have h2 := isNaN_walk b
 rw [cmpI]
 refine NCall.call (h1) rfl rfl ?_
 refine NCall.call (h2) rfl rfl ?_
 refine NB.dec (fun hk1 => ?_) (fun hk1 => ?_)
 ·refine NRet.intE ?_ (NRet.mk [] rfl ⟨.refl _, rfl⟩)
  omega
 refine NB.dec (fun hk2 => ?_) (fun hk2 => ?_)
 ·refine NRet.intE ?_ (NRet.mk [] rfl ⟨.refl _, rfl⟩)
  omega
 refine NRet.intE ?_ (NRet.mk [] rfl ⟨.refl _, rfl⟩)
 omega
theorem made_walk (node seq : Int) (e : Eff) : ACalls Tryz.prog Nm.eff_made [i64 node, i64 seq, effA e] [] (itemA (made node seq e)) [] := by
 refine ACalls_of tab (dr_snd tab mixed) Nm.eff_made_h rfl (by kernel_rfl) (Nat.le_of_ble_eq_true rfl) rfl ?_
 exact NRet.mk [] rfl ⟨.refl _, rfl⟩
def orI : List Int → Int
 | [] => 0
 | x :: r => if x = 0 then orI r else x
theorem orI_cons (x : Int) (r : List Int) : orI (x :: r) = if x = 0 then orI r else x := rfl
theorem or_walk (l : List Int) (hl : l.length ≤ 2 ^ 40) : ACalls Tryz.prog Nm.cmp_Or_int [ints l] [] (i64 (orI l)) [] := by
 refine ACalls_of tab (dr_snd tab mixed) Nm.cmp_Or_int_h rfl (by kernel_rfl) (Nat.le_of_ble_eq_true rfl) rfl ?_
 refine NLoop.mk [] [3, 6, 7, 8] (fun m vs H => ∃ i, i ≤ l.length ∧ m = l.length - i ∧ orI l = orI (l.drop i) ∧ H = [] ∧ vs = [i64 0, ints l, i64 l.length, i64 i]) rfl ?_ ?_
 ·exact Canon.mk [] rfl ⟨l.length, 0, Nat.zero_le _, rfl, rfl, rfl, by simp [ints, i64]⟩
 ·rintro m vs H ⟨i, hi, rfl, ht, rfl, rfl⟩
  rw [ht]
  by_cases hil : i < l.length
  ·rw [List.drop_eq_getElem_cons hil]
   rw [orI_cons]
   by_cases h0 : l[i] = 0
   ·rw [if_pos h0]
    refine ND.yes (by omega) ?_
    refine NP.mk (by omega) ?_
    refine NG.mapN (by omega) ?_
    refine ND.yes (by omega) ?_
    refine NW.w ?_
    exact Canon.mk [] rfl ⟨l.length - (i + 1), by omega, i + 1, by omega, rfl, rfl, rfl, rfl⟩
   ·rw [if_neg h0]
    refine ND.yes (by omega) ?_
    refine NP.mk (by omega) ?_
    refine NG.mapN (by omega) ?_
    refine ND.no (by omega) ?_
    exact NRet.mk [] rfl ⟨.refl _, rfl⟩
  ·rw [List.drop_eq_nil_of_le (by omega)]
   refine ND.no (by omega) ?_
   exact NRet.mk [] rfl ⟨.refl _, rfl⟩
theorem order_walk (a b : Dot) : ACalls Tryz.prog Nm.eff_order [dotA a, dotA b] [] (i64 (orI [cmpI a.node b.node, cmpI a.seq b.seq, cmpI a.at' b.at'])) [] := by
 refine ACalls_of tab (dr_snd tab mixed) Nm.eff_order_h rfl (by kernel_rfl) (Nat.le_of_ble_eq_true rfl) rfl ?_
 refine NP.mk (by kernel_rfl) ?_
 apply NDr.rd [0]
 ·intro fH TH
  exact ⟨rfl, rfl⟩
 apply NDr.rd [0]
 ·intro fH TH
  exact ⟨rfl, rfl⟩
 apply NDr.rd [1]
 ·intro fH TH
  exact ⟨rfl, rfl⟩
 apply NDr.rd [1]
 ·intro fH TH
  exact ⟨rfl, rfl⟩
 apply NDr.pure
 ·refine NCall.call (compare_walk a.node b.node) rfl rfl ?_
  exact ⟨rfl, rfl⟩
 apply NDr.rd [0]
 ·intro fH TH
  exact ⟨rfl, rfl⟩
 apply NDr.rd [0]
 ·intro fH TH
  exact ⟨rfl, rfl⟩
 apply NDr.rd [1]
 ·intro fH TH
  exact ⟨rfl, rfl⟩
 apply NDr.rd [1]
 ·intro fH TH
  exact ⟨rfl, rfl⟩
 apply NDr.pure
 ·refine NCall.call (compare_walk a.seq b.seq) rfl rfl ?_
  exact ⟨rfl, rfl⟩
 apply NDr.rd [0]
 ·intro fH TH
  exact ⟨rfl, rfl⟩
 apply NDr.rd [0]
 ·intro fH TH
  exact ⟨rfl, rfl⟩
 apply NDr.rd [1]
 ·intro fH TH
  exact ⟨rfl, rfl⟩
 apply NDr.rd [1]
 ·intro fH TH
  exact ⟨rfl, rfl⟩
 apply NDr.pure
 ·refine NCall.call (compare_walk a.at' b.at') rfl rfl ?_
  exact ⟨rfl, rfl⟩
 refine NDr.w _ ?_
 apply NDr.pure
 ·refine NCall.call (or_walk [cmpI a.node b.node, cmpI a.seq b.seq, cmpI a.at' b.at'] (by simp)) rfl rfl ?_
  exact ⟨rfl, rfl⟩
 refine NDr.w _ ?_
 refine NP.mk (by kernel_rfl) ?_
 exact NRet.mk [] rfl ⟨.refl _, rfl⟩
theorem order_dlt (a b : Dot) : orI [cmpI a.node b.node, cmpI a.seq b.seq, cmpI a.at' b.at'] < 0 ↔ dlt a b = true := by
 unfold dlt
 rw [decide_eq_true_eq]
 simp only [orI, cmpI]
 grind
/-- One step of a look at all and at all neighbours. -/
def Seen {α : Type} (p : α → Bool) (r : α → α → Bool) (l : List α) (i : Nat) : Prop := (∀ x ∈ l.take i, p x = true) ∧ ∀ (j : Nat) (h : j + 1 < l.length), j + 1 < i → r l[j] l[j + 1] = true
theorem seen0 {α : Type} (p : α → Bool) (r : α → α → Bool) (l : List α) : Seen p r l 0 := ⟨by simp, fun j _ h => by omega⟩
theorem seen_p {α : Type} {p : α → Bool} {r : α → α → Bool} {l : List α} {i : Nat} (h : i < l.length) (hp : p l[i] = false) : (l.all p && adj r l) = false := by
 rw [(List.all_eq_false).2 ⟨l[i], List.getElem_mem h, by simp [hp]⟩, Bool.false_and]
theorem seen_r {α : Type} {p : α → Bool} {r : α → α → Bool} {l : List α} {k : Nat} (h : k + 1 < l.length) (hr : r l[k] l[k + 1] = false) : (l.all p && adj r l) = false := by
 have : adj r l = false := by
  cases hq : adj r l with
  | false => rfl
  | true => rw [(adj_iff r l).1 hq k h] at hr; cases hr
 rw [this, Bool.and_false]
theorem seen_zero {α : Type} {p : α → Bool} {r : α → α → Bool} {l : List α} (h : 0 < l.length) (hp : p l[0] = true) : Seen p r l 1 := by
 refine ⟨fun x hx => ?_, fun j _ h => by omega⟩
 rw [List.take_succ_eq_append_getElem h] at hx
 simp at hx
 rw [hx]; exact hp
theorem seen_succ {α : Type} {p : α → Bool} {r : α → α → Bool} {l : List α} {k : Nat} (h : k + 1 < l.length) (hs : Seen p r l (k + 1)) (hp : p l[k + 1] = true) (hr : r l[k] l[k + 1] = true) : Seen p r l (k + 1 + 1) := by
 obtain ⟨h1, h2⟩ := hs
 refine ⟨(all_step h h1).2 hp, fun j hj hji => ?_⟩
 rcases Nat.lt_or_ge j k with h' | h'
 ·exact h2 j hj (by omega)
 ·have : j = k := by omega
  subst this; exact hr
theorem seen_end {α : Type} {p : α → Bool} {r : α → α → Bool} {l : List α} (hs : Seen p r l l.length) : (l.all p && adj r l) = true := by
 rw [all_end hs.1, Bool.true_and, adj_iff]
 exact fun i h => hs.2 i h h
theorem smMade {node seq : Int} {e : Eff} (h : smEff e) : smItem (made node seq e) := ⟨h.1, h.2.1, h.2.2.1⟩
theorem effFormed_walk (node seq : Int) (e : Eff) (he : smEff e) : ACalls Tryz.prog Nm.eff_Formed [i64 node, i64 seq, effA e] [] (.bool (effOk node seq e)) [] := by
 refine ACalls_of tab (dr_snd tab mixed) Nm.eff_Formed_h rfl (by kernel_rfl) (Nat.le_of_ble_eq_true rfl) rfl ?_
 rw [effOk, dropsOk]
 by_cases h : e.drops.length ≤ 64
 ·rw [decide_eq_true h, Bool.true_and]
  refine ND.no (by (simp only [zLm, zLa, zLr, zLc, zLn, zLt, zLd]; omega)) ?_
  refine NLoop.mk [] [0, 1, 2, 5, 15, 16, 17] (fun m vs H => ∃ i, i ≤ e.drops.length ∧ m = e.drops.length - i ∧ Seen dotOk dlt e.drops i ∧ H = [.row .box (.agg 7) [effA e]] ∧ vs = [i64 node, i64 seq, effA e, .ptr 0 0 0, dotsA e.drops, i64 e.drops.length, i64 i]) rfl ?_ ?_
  ·exact Canon.mk [0] rfl ⟨e.drops.length, 0, Nat.zero_le _, rfl, seen0 _ _ _, rfl, by simp [dotsA, i64]; rfl⟩
  ·rintro m vs H ⟨i, hi, rfl, hs, rfl, rfl⟩
   by_cases hil : i < e.drops.length
   ·have h1 := dot_walk' e.drops[i]
    cases hp : dotOk e.drops[i] with
    | false =>
     rw [hp] at h1
     rw [seen_p hil hp, Bool.false_and]
     refine ND.yes (by omega) ?_
     refine NP.mk (by omega) ?_
     refine NG.mapN (by omega) ?_
     refine NP.mk (by kernel_rfl) ?_
     apply NDr.rd [1]
     ·intro fH TH
      exact ⟨rfl, rfl⟩
     apply NDr.pure
     ·refine NCall.call (h1) rfl rfl ?_
      exact ⟨rfl, rfl⟩
     refine NDr.w _ ?_
     refine NDr.w _ ?_
     refine NDr.w _ ?_
     refine NP.mk (by kernel_rfl) ?_
     exact NRet.mk [] rfl ⟨.refl _, rfl⟩
    | true =>
     rw [hp] at h1
     cases i with
     | zero =>
      refine ND.yes (by omega) ?_
      refine NP.mk (by omega) ?_
      refine NG.mapN (by omega) ?_
      refine NP.mk (by kernel_rfl) ?_
      apply NDr.rd [1]
      ·intro fH TH
       exact ⟨rfl, rfl⟩
      apply NDr.pure
      ·refine NCall.call (h1) rfl rfl ?_
       exact ⟨rfl, rfl⟩
      refine NDr.w _ ?_
      refine NDr.w _ ?_
      refine NDr.w _ ?_
      apply NDr.pure
      ·refine ND.no (by omega) ?_
       exact ⟨rfl, rfl⟩
      refine NDr.w _ ?_
      refine NDr.w _ ?_
      refine NDr.w _ ?_
      refine NP.mk (by kernel_rfl) ?_
      refine NW.w ?_
      exact Canon.mk [0] rfl ⟨e.drops.length - 1, by omega, 1, by omega, rfl, seen_zero hil hp, rfl, rfl⟩
     | succ k =>
      have h2 := order_walk e.drops[k] e.drops[k + 1]
      have ho := order_dlt e.drops[k] e.drops[k + 1]
      have ek : Int.toNat (((k + 1 : Nat) : Int) - 1) = k := by omega
      generalize orI [cmpI e.drops[k].node e.drops[k + 1].node, cmpI e.drops[k].seq e.drops[k + 1].seq, cmpI e.drops[k].at' e.drops[k + 1].at'] = q at *
      cases hr : dlt e.drops[k] e.drops[k + 1] with
      | false =>
       rw [hr] at ho
       have hq : 0 ≤ q := Int.not_lt.1 fun h => by simpa using ho.1 h
       rw [seen_r hil hr, Bool.false_and]
       refine ND.yes (by omega) ?_
       refine NP.mk (by omega) ?_
       refine NG.mapN (by omega) ?_
       refine NP.mk (by kernel_rfl) ?_
       apply NDr.rd [1]
       ·intro fH TH
        exact ⟨rfl, rfl⟩
       apply NDr.pure
       ·refine NCall.call (h1) rfl rfl ?_
        exact ⟨rfl, rfl⟩
       refine NDr.w _ ?_
       refine NDr.w _ ?_
       refine NDr.w _ ?_
       apply NDr.pure
       ·refine ND.yes (by omega) ?_
        exact ⟨rfl, rfl⟩
       refine NDr.w _ ?_
       apply NDr.rd [0]
       ·intro fH TH
        exact ⟨rfl, rfl⟩
       apply NDr.rd [0]
       ·intro fH TH
        exact ⟨rfl, rfl⟩
       refine NDr.w _ ?_
       apply NDr.pure
       ·refine NW.w ?_
        exact ⟨rfl, rfl⟩
       apply NDr.pure
       ·refine NP.mk (by omega) ?_
        rw [(ek)]
        refine NG.mapN (by omega) ?_
        exact ⟨rfl, rfl⟩
       refine NDr.w _ ?_
       apply NDr.rd [1]
       ·intro fH TH
        exact ⟨rfl, rfl⟩
       apply NDr.pure
       ·refine NCall.call (h2) rfl rfl ?_
        exact ⟨rfl, rfl⟩
       apply NDr.pure
       ·refine ND.yes (by omega) ?_
        exact ⟨rfl, rfl⟩
       refine NDr.w _ ?_
       refine NDr.w _ ?_
       refine NP.mk (by kernel_rfl) ?_
       exact NRet.mk [] rfl ⟨.refl _, rfl⟩
      | true =>
       have hq := ho.2 hr
       refine ND.yes (by omega) ?_
       refine NP.mk (by omega) ?_
       refine NG.mapN (by omega) ?_
       refine NP.mk (by kernel_rfl) ?_
       apply NDr.rd [1]
       ·intro fH TH
        exact ⟨rfl, rfl⟩
       apply NDr.pure
       ·refine NCall.call (h1) rfl rfl ?_
        exact ⟨rfl, rfl⟩
       refine NDr.w _ ?_
       refine NDr.w _ ?_
       refine NDr.w _ ?_
       apply NDr.pure
       ·refine ND.yes (by omega) ?_
        exact ⟨rfl, rfl⟩
       refine NDr.w _ ?_
       apply NDr.rd [0]
       ·intro fH TH
        exact ⟨rfl, rfl⟩
       apply NDr.rd [0]
       ·intro fH TH
        exact ⟨rfl, rfl⟩
       refine NDr.w _ ?_
       apply NDr.pure
       ·refine NW.w ?_
        exact ⟨rfl, rfl⟩
       apply NDr.pure
       ·refine NP.mk (by omega) ?_
        rw [(ek)]
        refine NG.mapN (by omega) ?_
        exact ⟨rfl, rfl⟩
       refine NDr.w _ ?_
       apply NDr.rd [1]
       ·intro fH TH
        exact ⟨rfl, rfl⟩
       apply NDr.pure
       ·refine NCall.call (h2) rfl rfl ?_
        exact ⟨rfl, rfl⟩
       apply NDr.pure
       ·refine ND.no (by omega) ?_
        exact ⟨rfl, rfl⟩
       refine NDr.w _ ?_
       refine NDr.w _ ?_
       refine NP.mk (by kernel_rfl) ?_
       refine NW.w ?_
       exact Canon.mk [0] rfl ⟨e.drops.length - (k + 1 + 1), by omega, k + 1 + 1, by omega, rfl, seen_succ hil hs hp hr, rfl, rfl⟩
   ·have : i = e.drops.length := by omega
    subst this
    rw [seen_end hs, Bool.true_and]
    have h3 := made_walk node seq e
    by_cases hk : e.kind = 0
    ·rw [if_pos hk]
     have h4 := itemFormed_walk (made node seq { e with kind := 1 }) (smMade he)
     refine ND.no (by omega) ?_
     refine ND.yes (by omega) ?_
     refine NCall.call (h3) rfl rfl ?_
     refine NCall.call (h4) rfl rfl ?_
     refine NB.mk (fun hk3 => ?_) (fun hk3 => ?_)
     ·refine NB.yes (by simp [*]) ?_
      refine NB.yes (by simp [*]) ?_
      refine NB.dec (fun hk6 => ?_) (fun hk6 => ?_)
      ·refine NB.mk (fun hk7 => ?_) (fun hk7 => ?_)
       ·refine NB.dec (fun hk8 => ?_) (fun hk8 => ?_)
        ·refine NRet.boolE (b := true) ?_ (NRet.mk [] rfl ⟨.refl _, rfl⟩)
         grind [List.length_eq_zero_iff]
        refine NRet.boolE (b := false) ?_ (NRet.mk [] rfl ⟨.refl _, rfl⟩)
        grind [List.length_eq_zero_iff]
       refine NRet.boolE (b := false) ?_ (NRet.mk [] rfl ⟨.refl _, rfl⟩)
       grind [List.length_eq_zero_iff]
      refine NB.yes (by simp [*]) ?_
      refine NRet.boolE (b := false) ?_ (NRet.mk [] rfl ⟨.refl _, rfl⟩)
      grind [List.length_eq_zero_iff]
     refine NB.no (by simp [*]) ?_
     refine NB.no (by simp [*]) ?_
     refine NB.no (by simp [*]) ?_
     refine NRet.boolE (b := false) ?_ (NRet.mk [] rfl ⟨.refl _, rfl⟩)
     grind [List.length_eq_zero_iff]
    ·rw [if_neg hk]
     have h4 := itemFormed_walk (made node seq e) (smMade he)
     refine ND.no (by omega) ?_
     refine ND.no (by omega) ?_
     refine NCall.call (h3) rfl rfl ?_
     refine NCall.call (h4) rfl rfl ?_
     exact NRet.mk [] rfl ⟨.refl _, rfl⟩
 ·rw [decide_eq_false h, Bool.false_and, Bool.false_and]
  refine ND.yes (by (simp only [zLm, zLa, zLr, zLc, zLn, zLt, zLd]; omega)) ?_
  exact NRet.mk [] rfl ⟨.refl _, rfl⟩
theorem effFormed10_walk (node seq : Int) (e : Eff) (he : smEff e) : ACalls Tryz.prog Nm.ref10_Formed [i64 node, i64 seq, effA e] [] (.bool (effOk node seq e)) [] := by
 refine ACalls_of tab (dr_snd tab mixed) Nm.ref10_Formed_h rfl (by kernel_rfl) (Nat.le_of_ble_eq_true rfl) rfl ?_
 rw [effOk, dropsOk]
 by_cases h : e.drops.length ≤ 64
 ·rw [decide_eq_true h, Bool.true_and]
  refine ND.no (by (simp only [zLm, zLa, zLr, zLc, zLn, zLt, zLd]; omega)) ?_
  refine NLoop.mk [] [0, 1, 2, 5, 7] (fun m vs H => ∃ i, i ≤ e.drops.length ∧ m = e.drops.length - i ∧ Seen dotOk dlt e.drops i ∧ H = [.row .box (.agg 7) [effA e]] ∧ vs = [i64 node, i64 seq, effA e, .ptr 0 0 0, i64 i]) rfl ?_ ?_
  ·exact Canon.mk [0] rfl ⟨e.drops.length, 0, Nat.zero_le _, rfl, seen0 _ _ _, rfl, rfl⟩
  ·rintro m vs H ⟨i, hi, rfl, hs, rfl, rfl⟩
   by_cases hil : i < e.drops.length
   ·have h1 := may10_walk e.drops[i]
    cases hp : dotOk e.drops[i] with
    | false =>
     rw [hp] at h1
     rw [seen_p hil hp, Bool.false_and]
     refine ND.yes (by (simp only [zLm, zLa, zLr, zLc, zLn, zLt, zLd]; omega)) ?_
     refine NP.mk (by kernel_rfl) ?_
     apply NDr.rd [0]
     ·intro fH TH
      exact ⟨rfl, rfl⟩
     apply NDr.rd [0]
     ·intro fH TH
      exact ⟨rfl, rfl⟩
     refine NDr.w _ ?_
     apply NDr.pure
     ·refine NP.mk (by omega) ?_
      refine NG.mapN (by omega) ?_
      exact ⟨rfl, rfl⟩
     refine NDr.w _ ?_
     apply NDr.pure
     ·refine NCall.call (h1) rfl rfl ?_
      exact ⟨rfl, rfl⟩
     refine NDr.w _ ?_
     refine NDr.w _ ?_
     refine NDr.w _ ?_
     refine NP.mk (by kernel_rfl) ?_
     exact NRet.mk [] rfl ⟨.refl _, rfl⟩
    | true =>
     rw [hp] at h1
     cases i with
     | zero =>
      refine ND.yes (by (simp only [zLm, zLa, zLr, zLc, zLn, zLt, zLd]; omega)) ?_
      refine NP.mk (by kernel_rfl) ?_
      apply NDr.rd [0]
      ·intro fH TH
       exact ⟨rfl, rfl⟩
      apply NDr.rd [0]
      ·intro fH TH
       exact ⟨rfl, rfl⟩
      refine NDr.w _ ?_
      apply NDr.pure
      ·refine NP.mk (by omega) ?_
       refine NG.mapN (by omega) ?_
       exact ⟨rfl, rfl⟩
      refine NDr.w _ ?_
      apply NDr.pure
      ·refine NCall.call (h1) rfl rfl ?_
       exact ⟨rfl, rfl⟩
      refine NDr.w _ ?_
      refine NDr.w _ ?_
      refine NDr.w _ ?_
      apply NDr.pure
      ·refine ND.no (by omega) ?_
       exact ⟨rfl, rfl⟩
      refine NDr.w _ ?_
      refine NDr.w _ ?_
      refine NDr.w _ ?_
      refine NP.mk (by kernel_rfl) ?_
      refine NW.w ?_
      exact Canon.mk [0] rfl ⟨e.drops.length - 1, by omega, 1, by omega, rfl, seen_zero hil hp, rfl, rfl⟩
     | succ k =>
      have h2 := ahead10_walk e.drops[k] e.drops[k + 1]
      have ek : Int.toNat (((k + 1 : Nat) : Int) - 1) = k := by omega
      cases hr : dlt e.drops[k] e.drops[k + 1] with
      | false =>
       rw [hr] at h2
       rw [seen_r hil hr, Bool.false_and]
       refine ND.yes (by (simp only [zLm, zLa, zLr, zLc, zLn, zLt, zLd]; omega)) ?_
       refine NP.mk (by kernel_rfl) ?_
       apply NDr.rd [0]
       ·intro fH TH
        exact ⟨rfl, rfl⟩
       apply NDr.rd [0]
       ·intro fH TH
        exact ⟨rfl, rfl⟩
       refine NDr.w _ ?_
       apply NDr.pure
       ·refine NP.mk (by omega) ?_
        refine NG.mapN (by omega) ?_
        exact ⟨rfl, rfl⟩
       refine NDr.w _ ?_
       apply NDr.pure
       ·refine NCall.call (h1) rfl rfl ?_
        exact ⟨rfl, rfl⟩
       refine NDr.w _ ?_
       refine NDr.w _ ?_
       refine NDr.w _ ?_
       apply NDr.pure
       ·refine ND.yes (by omega) ?_
        exact ⟨rfl, rfl⟩
       refine NDr.w _ ?_
       apply NDr.rd [0]
       ·intro fH TH
        exact ⟨rfl, rfl⟩
       apply NDr.rd [0]
       ·intro fH TH
        exact ⟨rfl, rfl⟩
       refine NDr.w _ ?_
       apply NDr.pure
       ·refine NW.w ?_
        exact ⟨rfl, rfl⟩
       apply NDr.pure
       ·refine NP.mk (by omega) ?_
        rw [(ek)]
        refine NG.mapN (by omega) ?_
        exact ⟨rfl, rfl⟩
       refine NDr.w _ ?_
       apply NDr.rd [0]
       ·intro fH TH
        exact ⟨rfl, rfl⟩
       apply NDr.rd [0]
       ·intro fH TH
        exact ⟨rfl, rfl⟩
       refine NDr.w _ ?_
       apply NDr.pure
       ·refine NP.mk (by omega) ?_
        refine NG.mapN (by omega) ?_
        exact ⟨rfl, rfl⟩
       refine NDr.w _ ?_
       apply NDr.pure
       ·refine NCall.call (h2) rfl rfl ?_
        exact ⟨rfl, rfl⟩
       refine NDr.w _ ?_
       refine NDr.w _ ?_
       refine NDr.w _ ?_
       refine NP.mk (by kernel_rfl) ?_
       exact NRet.mk [] rfl ⟨.refl _, rfl⟩
      | true =>
       rw [hr] at h2
       refine ND.yes (by (simp only [zLm, zLa, zLr, zLc, zLn, zLt, zLd]; omega)) ?_
       refine NP.mk (by kernel_rfl) ?_
       apply NDr.rd [0]
       ·intro fH TH
        exact ⟨rfl, rfl⟩
       apply NDr.rd [0]
       ·intro fH TH
        exact ⟨rfl, rfl⟩
       refine NDr.w _ ?_
       apply NDr.pure
       ·refine NP.mk (by omega) ?_
        refine NG.mapN (by omega) ?_
        exact ⟨rfl, rfl⟩
       refine NDr.w _ ?_
       apply NDr.pure
       ·refine NCall.call (h1) rfl rfl ?_
        exact ⟨rfl, rfl⟩
       refine NDr.w _ ?_
       refine NDr.w _ ?_
       refine NDr.w _ ?_
       apply NDr.pure
       ·refine ND.yes (by omega) ?_
        exact ⟨rfl, rfl⟩
       refine NDr.w _ ?_
       apply NDr.rd [0]
       ·intro fH TH
        exact ⟨rfl, rfl⟩
       apply NDr.rd [0]
       ·intro fH TH
        exact ⟨rfl, rfl⟩
       refine NDr.w _ ?_
       apply NDr.pure
       ·refine NW.w ?_
        exact ⟨rfl, rfl⟩
       apply NDr.pure
       ·refine NP.mk (by omega) ?_
        rw [(ek)]
        refine NG.mapN (by omega) ?_
        exact ⟨rfl, rfl⟩
       refine NDr.w _ ?_
       apply NDr.rd [0]
       ·intro fH TH
        exact ⟨rfl, rfl⟩
       apply NDr.rd [0]
       ·intro fH TH
        exact ⟨rfl, rfl⟩
       refine NDr.w _ ?_
       apply NDr.pure
       ·refine NP.mk (by omega) ?_
        refine NG.mapN (by omega) ?_
        exact ⟨rfl, rfl⟩
       refine NDr.w _ ?_
       apply NDr.pure
       ·refine NCall.call (h2) rfl rfl ?_
        exact ⟨rfl, rfl⟩
       refine NDr.w _ ?_
       refine NDr.w _ ?_
       refine NDr.w _ ?_
       refine NP.mk (by kernel_rfl) ?_
       refine NW.w ?_
       exact Canon.mk [0] rfl ⟨e.drops.length - (k + 1 + 1), by omega, k + 1 + 1, by omega, rfl, seen_succ hil hs hp hr, rfl, rfl⟩
   ·have : i = e.drops.length := by omega
    subst this
    rw [seen_end hs, Bool.true_and]
    have h3 := made10_walk node seq e
    have h4 := item9_walk (made node seq e) (smMade he)
    have h5 := key8_walk e.key (by have := he.1; omega)
    have h6 := prefix8_walk e.field (by have := he.2.1; omega)
    have h7 := may10_walk ⟨node, seq, e.at'⟩
    by_cases hk : e.kind = 0
    ·rw [if_pos hk]
     refine ND.no (by (simp only [zLm, zLa, zLr, zLc, zLn, zLt, zLd]; omega)) ?_
     refine ND.yes (by omega) ?_
     refine NB.dec (fun hk3 => ?_) (fun hk3 => ?_)
     ·refine NB.dec (fun hk4 => ?_) (fun hk4 => ?_)
      ·refine NB.dec (fun hk5 => ?_) (fun hk5 => ?_)
       ·refine NCall.call (h5) rfl rfl ?_
        refine NB.mk (fun hk6 => ?_) (fun hk6 => ?_)
        ·refine NB.yes (by simp [*]) ?_
         refine NB.yes (by simp [*]) ?_
         refine NCall.call (h6) rfl rfl ?_
         refine NB.yes (by simp [*]) ?_
         refine NB.mk (fun hk10 => ?_) (fun hk10 => ?_)
         ·refine NB.yes (by simp [*]) ?_
          refine NB.yes (by simp [*]) ?_
          refine NB.yes (by simp [*]) ?_
          refine NB.yes (by simp [*]) ?_
          refine NB.yes (by simp [*]) ?_
          refine NCall.call (h7) rfl rfl ?_
          refine NB.yes (by simp [*]) ?_
          refine NRet.boolE ?_ (NRet.mk [] rfl ⟨.refl _, rfl⟩)
          grind [itemOk, made, kindOk, List.length_eq_zero_iff]
         refine NB.no (by simp [*]) ?_
         refine NB.no (by simp [*]) ?_
         refine NB.no (by simp [*]) ?_
         refine NB.no (by simp [*]) ?_
         refine NB.no (by simp [*]) ?_
         refine NB.no (by simp [*]) ?_
         refine NRet.boolE (b := false) ?_ (NRet.mk [] rfl ⟨.refl _, rfl⟩)
         grind [itemOk, made, kindOk, List.length_eq_zero_iff]
        refine NB.no (by simp [*]) ?_
        refine NB.no (by simp [*]) ?_
        refine NB.no (by simp [*]) ?_
        refine NRet.boolE (b := false) ?_ (NRet.mk [] rfl ⟨.refl _, rfl⟩)
        grind [itemOk, made, kindOk, List.length_eq_zero_iff]
       refine NRet.boolE (b := false) ?_ (NRet.mk [] rfl ⟨.refl _, rfl⟩)
       grind [itemOk, made, kindOk, List.length_eq_zero_iff]
      refine NRet.boolE (b := false) ?_ (NRet.mk [] rfl ⟨.refl _, rfl⟩)
      grind [itemOk, made, kindOk, List.length_eq_zero_iff]
     refine NRet.boolE (b := false) ?_ (NRet.mk [] rfl ⟨.refl _, rfl⟩)
     grind [itemOk, made, kindOk, List.length_eq_zero_iff]
    ·rw [if_neg hk]
     refine ND.no (by (simp only [zLm, zLa, zLr, zLc, zLn, zLt, zLd]; omega)) ?_
     refine ND.no (by omega) ?_
     refine NCall.call (h3) rfl rfl ?_
     refine NCall.call (h4) rfl rfl ?_
     exact NRet.mk [] rfl ⟨.refl _, rfl⟩
 ·rw [decide_eq_false h, Bool.false_and, Bool.false_and]
  refine ND.yes (by (simp only [zLm, zLa, zLr, zLc, zLn, zLt, zLd]; omega)) ?_
  exact NRet.mk [] rfl ⟨.refl _, rfl⟩
def heard1 (node seq : Int) (v : List Int) (d : Dot) : Bool := hasB v d.node d.seq || decide (d.node = node ∧ d.seq = seq)
theorem effHeard_walk (l : List Eff) (node seq : Int) (v : List Int) (hl : l.length ≤ 2 ^ 40) (hx : ∀ e ∈ l, smEff e) (hv : v.length ≤ 2 ^ 40) : ACalls Tryz.prog Nm.eff_Heard [effsA l, i64 node, i64 seq, ints v] [] (.bool (heardB l node seq v)) [] := by
 refine ACalls_of tab (dr_snd tab mixed) Nm.eff_Heard_h rfl (by kernel_rfl) (Nat.le_of_ble_eq_true rfl) rfl ?_
 refine NLoop.mk [] [1, 2, 3, 13, 14, 15] (fun m vs H => ∃ i, i ≤ l.length ∧ m = l.length - i ∧ (∀ x ∈ l.take i, (x.drops.all (heard1 node seq v)) = true) ∧ H = [] ∧ vs = [i64 node, i64 seq, ints v, effsA l, i64 l.length, i64 i]) rfl ?_ ?_
 ·exact Canon.mk [] rfl ⟨l.length, 0, Nat.zero_le _, rfl, by simp, rfl, by simp [effsA, ints, i64]⟩
 ·rintro m vs H ⟨i, hi, rfl, ht, rfl, rfl⟩
  by_cases hil : i < l.length
  ·obtain ⟨f1, f2⟩ := all_step hil ht
   have hd := (hx _ (List.getElem_mem hil)).2.2.2
   refine ND.yes (by omega) ?_
   refine NP.mk (by omega) ?_
   refine NG.mapN (by omega) ?_
   refine NLoop.mk [] [1, 2, 3, 13, 14, 15, 20, 21, 22] (fun m vs H => ∃ k, k ≤ l[i].drops.length ∧ m = l[i].drops.length - k ∧ (∀ x ∈ l[i].drops.take k, heard1 node seq v x = true) ∧ H = [] ∧ vs = [i64 node, i64 seq, ints v, effsA l, i64 l.length, i64 i, dotsA l[i].drops, i64 l[i].drops.length, i64 k]) rfl ?_ ?_
   ·exact Canon.mk [] rfl ⟨l[i].drops.length, 0, Nat.zero_le _, rfl, by simp, rfl, by simp [effsA, ints, dotsA, i64]⟩
   ·rintro m vs H ⟨k, hk, rfl, htk, rfl, rfl⟩
    by_cases hkl : k < l[i].drops.length
    ·obtain ⟨g1, g2⟩ := all_step hkl htk
     have h1 := vecHas_walk v l[i].drops[k].node l[i].drops[k].seq l[i].drops[k].at' hv
     have bad : heard1 node seq v l[i].drops[k] = false → false = heardB l node seq v := fun h => (f1 (g1 h)).symm
     have fin : heard1 node seq v l[i].drops[k] = true → ∃ m', m' < l[i].drops.length - k ∧ ∃ k', k' ≤ l[i].drops.length ∧ m' = l[i].drops.length - k' ∧ (∀ x ∈ l[i].drops.take k', heard1 node seq v x = true) ∧ ([] : List Blk) = [] ∧ [i64 node, i64 seq, ints v, effsA l, i64 l.length, i64 i, dotsA l[i].drops, i64 l[i].drops.length, i64 ((k + 1 : Nat) : Int)] = [i64 node, i64 seq, ints v, effsA l, i64 l.length, i64 i, dotsA l[i].drops, i64 l[i].drops.length, i64 k'] := fun h =>
      ⟨l[i].drops.length - (k + 1), by omega, k + 1, by omega, rfl, g2 h, rfl, rfl⟩
     refine ND.yes (by omega) ?_
     refine NP.mk (by omega) ?_
     refine NG.mapN (by omega) ?_
     refine NCall.call (h1) rfl rfl ?_
     refine NB.mk (fun hk2 => ?_) (fun hk2 => ?_)
     ·refine NW.w ?_
      exact (Canon.mk [] rfl (fin (by grind [heard1, hasB])))
     refine NB.dec (fun hk3 => ?_) (fun hk3 => ?_)
     ·refine NB.dec (fun hk4 => ?_) (fun hk4 => ?_)
      ·refine NW.w ?_
       exact (Canon.mk [] rfl (fin (by grind [heard1, hasB])))
      refine NRet.boolE (b := false) ?_ (NRet.mk [] rfl ⟨.refl _, rfl⟩)
      exact bad (by grind [heard1, hasB])
     refine NRet.boolE (b := false) ?_ (NRet.mk [] rfl ⟨.refl _, rfl⟩)
     exact bad (by grind [heard1, hasB])
    ·have : k = l[i].drops.length := by omega
     have htk := all_end (this ▸ htk)
     refine ND.no (by omega) ?_
     refine NW.w ?_
     exact Canon.mk [] rfl ⟨l.length - (i + 1), by omega, i + 1, by omega, rfl, f2 htk, rfl, rfl⟩
  ·have : i = l.length := by omega
   subst this
   rw [show heardB l node seq v = true from all_end ht]
   refine ND.no (by omega) ?_
   exact NRet.mk [] rfl ⟨.refl _, rfl⟩
theorem effHeard10_walk (l : List Eff) (node seq : Int) (v : List Int) (hl : l.length ≤ 2 ^ 40) (hx : ∀ e ∈ l, smEff e) (hv : v.length ≤ 2 ^ 40) : ACalls Tryz.prog Nm.ref10_Heard [effsA l, i64 node, i64 seq, ints v] [] (.bool (heardB l node seq v)) [] := by
 refine ACalls_of tab (dr_snd tab mixed) Nm.ref10_Heard_h rfl (by kernel_rfl) (Nat.le_of_ble_eq_true rfl) rfl ?_
 refine NLoop.mk [] [0, 1, 2, 3, 9] (fun m vs H => ∃ i, i ≤ l.length ∧ m = l.length - i ∧ (∀ x ∈ l.take i, (x.drops.all (heard1 node seq v)) = true) ∧ H = [] ∧ vs = [effsA l, i64 node, i64 seq, ints v, i64 i]) rfl ?_ ?_
 ·exact Canon.mk [] rfl ⟨l.length, 0, Nat.zero_le _, rfl, by simp, rfl, rfl⟩
 ·rintro m vs H ⟨i, hi, rfl, ht, rfl, rfl⟩
  by_cases hil : i < l.length
  ·obtain ⟨f1, f2⟩ := all_step hil ht
   have hd := (hx _ (List.getElem_mem hil)).2.2.2
   refine ND.yes (by (simp only [zLm, zLa, zLr, zLc, zLn, zLt, zLd]; omega)) ?_
   refine NLoop.mk [] [0, 1, 2, 3, 9, 10] (fun m vs H => ∃ k, k ≤ l[i].drops.length ∧ m = l[i].drops.length - k ∧ (∀ x ∈ l[i].drops.take k, heard1 node seq v x = true) ∧ H = [] ∧ vs = [effsA l, i64 node, i64 seq, ints v, i64 i, i64 k]) rfl ?_ ?_
   ·exact Canon.mk [] rfl ⟨l[i].drops.length, 0, Nat.zero_le _, rfl, by simp, rfl, rfl⟩
   ·rintro m vs H ⟨k, hk, rfl, htk, rfl, rfl⟩
    by_cases hkl : k < l[i].drops.length
    ·obtain ⟨g1, g2⟩ := all_step hkl htk
     have h1 := at7_walk v l[i].drops[k].node hv
     have bad : heard1 node seq v l[i].drops[k] = false → false = heardB l node seq v := fun h => (f1 (g1 h)).symm
     have fin : heard1 node seq v l[i].drops[k] = true → ∃ m', m' < l[i].drops.length - k ∧ ∃ k', k' ≤ l[i].drops.length ∧ m' = l[i].drops.length - k' ∧ (∀ x ∈ l[i].drops.take k', heard1 node seq v x = true) ∧ ([] : List Blk) = [] ∧ [effsA l, i64 node, i64 seq, ints v, i64 i, i64 ((k + 1 : Nat) : Int)] = [effsA l, i64 node, i64 seq, ints v, i64 i, i64 k'] := fun h =>
      ⟨l[i].drops.length - (k + 1), by omega, k + 1, by omega, rfl, g2 h, rfl, rfl⟩
     refine NP.mk (by omega) ?_
     refine NG.mapN (by omega) ?_
     refine ND.yes (by (simp only [zLm, zLa, zLr, zLc, zLn, zLt, zLd]; omega)) ?_
     refine NP.mk (by omega) ?_
     refine NG.mapN (by omega) ?_
     refine NP.mk (by omega) ?_
     refine NG.mapN (by omega) ?_
     refine NB.dec (fun hk2 => ?_) (fun hk2 => ?_)
     ·refine NB.dec (fun hk3 => ?_) (fun hk3 => ?_)
      ·refine NP.mk (by kernel_rfl) ?_
       refine NDr.w _ ?_
       refine NDr.w _ ?_
       refine NDr.w _ ?_
       refine NDr.w _ ?_
       refine NP.mk (by kernel_rfl) ?_
       refine NW.w ?_
       exact (Canon.mk [] rfl (fin (by grind [heard1, hasB])))
      refine NP.mk (by kernel_rfl) ?_
      refine NDr.w _ ?_
      refine NDr.w _ ?_
      refine NDr.w _ ?_
      apply NDr.rd [0]
      ·intro fH TH
       exact ⟨rfl, rfl⟩
      apply NDr.rd [0]
      ·intro fH TH
       exact ⟨rfl, rfl⟩
      apply NDr.pure
      ·exact NB.det
      refine NDr.w _ ?_
      refine NB.mk (fun hk5 => ?_) (fun hk5 => ?_)
      ·refine NB.yes (by simp [*]) ?_
       refine NB.yes (by simp [*]) ?_
       refine NB.yes (by simp [*]) ?_
       refine NB.yes (by simp [*]) ?_
       refine NB.yes (by simp [*]) ?_
       refine NB.yes (by simp [*]) ?_
       apply NDr.pure
       ·refine NB.yes (by simp [*]) ?_
        exact ⟨rfl, rfl⟩
       refine NDr.w _ ?_
       refine NP.mk (by kernel_rfl) ?_
       refine NRet.boolE (b := false) ?_ (NRet.mk [] rfl ⟨.refl _, rfl⟩)
       exact bad (by grind [heard1, hasB])
      apply NDr.rd [0]
      ·intro fH TH
       exact ⟨rfl, rfl⟩
      refine NB.no (by simp [*]) ?_
      apply NDr.rd [0]
      ·intro fH TH
       exact ⟨rfl, rfl⟩
      refine NB.no (by simp [*]) ?_
      refine NDr.w _ ?_
      refine NB.no (by simp [*]) ?_
      apply NDr.rd [0]
      ·intro fH TH
       exact ⟨rfl, rfl⟩
      refine NB.no (by simp [*]) ?_
      apply NDr.rd [0]
      ·intro fH TH
       exact ⟨rfl, rfl⟩
      refine NB.no (by simp [*]) ?_
      apply NDr.pure
      ·refine NCall.call (h1) rfl rfl ?_
       exact ⟨rfl, rfl⟩
      refine NB.no (by simp [*]) ?_
      apply NDr.pure
      ·exact NB.det
      apply NDr.pure
      ·refine NB.no (by simp [*]) ?_
       exact ⟨rfl, rfl⟩
      refine NDr.w _ ?_
      refine NP.mk (by kernel_rfl) ?_
      refine NB.mk (fun hk21 => ?_) (fun hk21 => ?_)
      ·refine NRet.boolE (b := false) ?_ (NRet.mk [] rfl ⟨.refl _, rfl⟩)
       exact bad (by grind [heard1, hasB])
      refine NW.w ?_
      exact (Canon.mk [] rfl (fin (by grind [heard1, hasB])))
     refine NP.mk (by kernel_rfl) ?_
     refine NDr.w _ ?_
     refine NDr.w _ ?_
     refine NDr.w _ ?_
     apply NDr.rd [0]
     ·intro fH TH
      exact ⟨rfl, rfl⟩
     apply NDr.rd [0]
     ·intro fH TH
      exact ⟨rfl, rfl⟩
     apply NDr.pure
     ·exact NB.det
     refine NDr.w _ ?_
     refine NB.mk (fun hk23 => ?_) (fun hk23 => ?_)
     ·refine NB.yes (by simp [*]) ?_
      refine NB.yes (by simp [*]) ?_
      refine NB.yes (by simp [*]) ?_
      refine NB.yes (by simp [*]) ?_
      refine NB.yes (by simp [*]) ?_
      refine NB.yes (by simp [*]) ?_
      apply NDr.pure
      ·refine NB.yes (by simp [*]) ?_
       exact ⟨rfl, rfl⟩
      refine NDr.w _ ?_
      refine NP.mk (by kernel_rfl) ?_
      refine NRet.boolE (b := false) ?_ (NRet.mk [] rfl ⟨.refl _, rfl⟩)
      exact bad (by grind [heard1, hasB])
     apply NDr.rd [0]
     ·intro fH TH
      exact ⟨rfl, rfl⟩
     refine NB.no (by simp [*]) ?_
     apply NDr.rd [0]
     ·intro fH TH
      exact ⟨rfl, rfl⟩
     refine NB.no (by simp [*]) ?_
     refine NDr.w _ ?_
     refine NB.no (by simp [*]) ?_
     apply NDr.rd [0]
     ·intro fH TH
      exact ⟨rfl, rfl⟩
     refine NB.no (by simp [*]) ?_
     apply NDr.rd [0]
     ·intro fH TH
      exact ⟨rfl, rfl⟩
     refine NB.no (by simp [*]) ?_
     apply NDr.pure
     ·refine NCall.call (h1) rfl rfl ?_
      exact ⟨rfl, rfl⟩
     refine NB.no (by simp [*]) ?_
     apply NDr.pure
     ·exact NB.det
     apply NDr.pure
     ·refine NB.no (by simp [*]) ?_
      exact ⟨rfl, rfl⟩
     refine NDr.w _ ?_
     refine NP.mk (by kernel_rfl) ?_
     refine NB.mk (fun hk39 => ?_) (fun hk39 => ?_)
     ·refine NRet.boolE (b := false) ?_ (NRet.mk [] rfl ⟨.refl _, rfl⟩)
      exact bad (by grind [heard1, hasB])
     refine NW.w ?_
     exact (Canon.mk [] rfl (fin (by grind [heard1, hasB])))
    ·have : k = l[i].drops.length := by omega
     have htk := all_end (this ▸ htk)
     refine NP.mk (by omega) ?_
     refine NG.mapN (by omega) ?_
     refine ND.no (by (simp only [zLm, zLa, zLr, zLc, zLn, zLt, zLd]; omega)) ?_
     refine NW.w ?_
     exact Canon.mk [] rfl ⟨l.length - (i + 1), by omega, i + 1, by omega, rfl, f2 htk, rfl, rfl⟩
  ·have : i = l.length := by omega
   subst this
   rw [show heardB l node seq v = true from all_end ht]
   refine ND.no (by (simp only [zLm, zLa, zLr, zLc, zLn, zLt, zLd]; omega)) ?_
   exact NRet.mk [] rfl ⟨.refl _, rfl⟩
def ownBad (node seq : Int) (e : Eff) (d : Dot) : Bool := decide (d.node = node ∧ d.seq = seq ∧ e.at' ≤ d.at')
theorem ownOk_any (node seq : Int) (e : Eff) : ownOk node seq e = !e.drops.any (ownBad node seq e) := by
 unfold ownOk ownBad
 rw [List.not_any_eq_all_not]
 congr 1; funext d
 simp
 grind
def atLt (a b : Eff) : Bool := decide (a.at' < b.at')
def eff1 (node seq : Int) (e : Eff) : Bool := effOk node seq e && ownOk node seq e
theorem right10_walk (node seq : Int) (l : List Eff) (hl : l.length ≤ 2 ^ 40) (hx : ∀ e ∈ l, smEff e) : ACalls Tryz.prog Nm.ref10_Right [i64 node, i64 seq, effsA l] [] (.bool (effsOk node seq l)) [] := by
 refine ACalls_of tab (dr_snd tab mixed) Nm.ref10_Right_h rfl (by kernel_rfl) (Nat.le_of_ble_eq_true rfl) rfl ?_
 have e0 : effsOk node seq l = (l.all (eff1 node seq) && adj atLt l) := rfl
 rw [e0]
 refine NLoop.mk [] [0, 1, 2, 7] (fun m vs H => ∃ i, i ≤ l.length ∧ m = l.length - i ∧ Seen (eff1 node seq) atLt l i ∧ H = [] ∧ vs = [i64 node, i64 seq, effsA l, i64 i]) rfl ?_ ?_
 ·exact Canon.mk [] rfl ⟨l.length, 0, Nat.zero_le _, rfl, seen0 _ _ _, rfl, rfl⟩
 ·rintro m vs H ⟨i, hi, rfl, hs, rfl, rfl⟩
  by_cases hil : i < l.length
  ·have hxi := hx _ (List.getElem_mem hil)
   have h1 := effFormed10_walk node seq l[i] hxi
   have h64 := hxi.2.2.2
   cases hp : effOk node seq l[i] with
   | false =>
    rw [hp] at h1
    rw [seen_p hil (by unfold eff1; rw [hp, Bool.false_and])]
    refine ND.yes (by (simp only [zLm, zLa, zLr, zLc, zLn, zLt, zLd]; omega)) ?_
    refine NP.mk (by omega) ?_
    refine NG.mapN (by omega) ?_
    refine NCall.call (h1) rfl rfl ?_
    exact NRet.mk [] rfl ⟨.refl _, rfl⟩
   | true =>
    rw [hp] at h1
    have hone : (l[i].drops.all fun x => !ownBad node seq l[i] x) = true → eff1 node seq l[i] = true := fun h => by
     unfold eff1; rw [hp, Bool.true_and, ownOk_any, List.not_any_eq_all_not]; exact h
    have hzero : (l[i].drops.all fun x => !ownBad node seq l[i] x) = false → eff1 node seq l[i] = false := fun h => by
     unfold eff1; rw [hp, Bool.true_and, ownOk_any, List.not_any_eq_all_not]; exact h
    cases i with
    | zero =>
     refine ND.yes (by (simp only [zLm, zLa, zLr, zLc, zLn, zLt, zLd]; omega)) ?_
     refine NP.mk (by omega) ?_
     refine NG.mapN (by omega) ?_
     refine NCall.call (h1) rfl rfl ?_
     refine NP.mk (by kernel_rfl) ?_
     refine NDr.w _ ?_
     apply NDr.pure
     ·refine ND.no (by omega) ?_
      exact ⟨rfl, rfl⟩
     refine NDr.w _ ?_
     refine NDr.w _ ?_
     refine NP.mk (by kernel_rfl) ?_
     refine NLoop.mk [] [0, 1, 2, 7, 8] (fun m vs H => ∃ k', k' ≤ l[0].drops.length ∧ m = l[0].drops.length - k' ∧ (∀ x ∈ l[0].drops.take k', (!ownBad node seq l[0] x) = true) ∧ H = [] ∧ vs = [i64 node, i64 seq, effsA l, i64 ((0 : Nat) : Int), i64 k']) rfl ?_ ?_
     ·exact Canon.mk [] rfl ⟨l[0].drops.length, 0, Nat.zero_le _, rfl, by simp, rfl, rfl⟩
     ·rintro m vs H ⟨k', hk', rfl, htk, rfl, rfl⟩
      by_cases hkl : k' < l[0].drops.length
      ·obtain ⟨g1, g2⟩ := all_step (p := fun x => !ownBad node seq l[0] x) hkl htk
       cases hb : ownBad node seq l[0] l[0].drops[k'] with
       | true =>
        rw [seen_p hil (hzero (g1 (by rw [hb]; rfl)))]
        have hb' := hb
        unfold ownBad at hb'
        rw [decide_eq_true_eq] at hb'
        refine NP.mk (by omega) ?_
        refine NG.mapN (by omega) ?_
        refine ND.yes (by (simp only [zLm, zLa, zLr, zLc, zLn, zLt, zLd]; omega)) ?_
        refine NP.mk (by omega) ?_
        refine NG.mapN (by omega) ?_
        refine NP.mk (by omega) ?_
        refine NG.mapN (by omega) ?_
        refine NP.mk (by kernel_rfl) ?_
        apply NDr.rd [0]
        ·intro fH TH
         exact ⟨rfl, rfl⟩
        apply NDr.rd [0]
        ·intro fH TH
         exact ⟨rfl, rfl⟩
        refine NDr.w _ ?_
        apply NDr.pure
        ·refine ND.yes (by omega) ?_
         exact ⟨rfl, rfl⟩
        refine NDr.w _ ?_
        apply NDr.rd [0]
        ·intro fH TH
         exact ⟨rfl, rfl⟩
        apply NDr.rd [0]
        ·intro fH TH
         exact ⟨rfl, rfl⟩
        refine NDr.w _ ?_
        apply NDr.pure
        ·refine ND.yes (by omega) ?_
         exact ⟨rfl, rfl⟩
        refine NDr.w _ ?_
        refine NDr.w _ ?_
        apply NDr.rd [0]
        ·intro fH TH
         exact ⟨rfl, rfl⟩
        apply NDr.rd [0]
        ·intro fH TH
         exact ⟨rfl, rfl⟩
        refine NDr.w _ ?_
        refine NDr.w _ ?_
        apply NDr.pure
        ·refine NP.mk (by omega) ?_
         refine NG.mapN (by omega) ?_
         exact ⟨rfl, rfl⟩
        refine NDr.w _ ?_
        refine NDr.w _ ?_
        apply NDr.pure
        ·refine ND.yes (by omega) ?_
         exact ⟨rfl, rfl⟩
        refine NDr.w _ ?_
        refine NP.mk (by kernel_rfl) ?_
        exact NRet.mk [] rfl ⟨.refl _, rfl⟩
       | false =>
        have hb' := hb
        unfold ownBad at hb'
        rw [decide_eq_false_iff_not] at hb'
        have fin : ∃ m', m' < l[0].drops.length - k' ∧ ∃ k'', k'' ≤ l[0].drops.length ∧ m' = l[0].drops.length - k'' ∧ (∀ x ∈ l[0].drops.take k'', (!ownBad node seq l[0] x) = true) ∧ ([] : List Blk) = [] ∧ [i64 node, i64 seq, effsA l, i64 ((0 : Nat) : Int), i64 ((k' + 1 : Nat) : Int)] = [i64 node, i64 seq, effsA l, i64 ((0 : Nat) : Int), i64 k''] :=
         ⟨l[0].drops.length - (k' + 1), by omega, k' + 1, by omega, rfl, g2 (by rw [hb]; rfl), rfl, rfl⟩
        refine NP.mk (by omega) ?_
        refine NG.mapN (by omega) ?_
        refine ND.yes (by (simp only [zLm, zLa, zLr, zLc, zLn, zLt, zLd]; omega)) ?_
        refine NP.mk (by omega) ?_
        refine NG.mapN (by omega) ?_
        refine NP.mk (by omega) ?_
        refine NG.mapN (by omega) ?_
        refine NP.mk (by kernel_rfl) ?_
        apply NDr.rd [0]
        ·intro fH TH
         exact ⟨rfl, rfl⟩
        apply NDr.rd [0]
        ·intro fH TH
         exact ⟨rfl, rfl⟩
        refine NDr.w _ ?_
        apply NDr.pure
        ·exact NB.det
        refine NDr.w _ ?_
        refine NB.mk (fun hk3 => ?_) (fun hk3 => ?_)
        ·apply NDr.rd [0]
         ·intro fH TH
          exact ⟨rfl, rfl⟩
         refine NB.yes (by simp [*]) ?_
         apply NDr.rd [0]
         ·intro fH TH
          exact ⟨rfl, rfl⟩
         refine NB.yes (by simp [*]) ?_
         refine NDr.w _ ?_
         refine NB.yes (by simp [*]) ?_
         apply NDr.pure
         ·exact NB.det
         apply NDr.pure
         ·refine NB.yes (by simp [*]) ?_
          exact ⟨rfl, rfl⟩
         refine NDr.w _ ?_
         refine NB.mk (fun hk9 => ?_) (fun hk9 => ?_)
         ·apply NDr.rd [0]
          ·intro fH TH
           exact ⟨rfl, rfl⟩
          refine NB.yes (by simp [*]) ?_
          apply NDr.rd [0]
          ·intro fH TH
           exact ⟨rfl, rfl⟩
          refine NB.yes (by simp [*]) ?_
          refine NDr.w _ ?_
          refine NB.yes (by simp [*]) ?_
          refine NDr.w _ ?_
          refine NB.yes (by simp [*]) ?_
          apply NDr.pure
          ·refine NP.mk (by omega) ?_
           refine NG.mapN (by omega) ?_
           exact ⟨rfl, rfl⟩
          refine NB.yes (by simp [*]) ?_
          refine NDr.w _ ?_
          refine NB.yes (by simp [*]) ?_
          refine NDr.w _ ?_
          refine NB.yes (by simp [*]) ?_
          apply NDr.pure
          ·exact NB.det
          apply NDr.pure
          ·refine NB.yes (by simp [*]) ?_
           exact ⟨rfl, rfl⟩
          refine NP.mk (by kernel_rfl) ?_
          refine NB.mk (fun hk19 => ?_) (fun hk19 => ?_)
          ·refine NRet.boolE (b := false) ?_ (NRet.mk [] rfl ⟨.refl _, rfl⟩)
           grind
          refine NW.w ?_
          exact (Canon.mk [] rfl fin)
         refine NB.no (by simp [*]) ?_
         refine NB.no (by simp [*]) ?_
         refine NB.no (by simp [*]) ?_
         refine NB.no (by simp [*]) ?_
         refine NB.no (by simp [*]) ?_
         refine NB.no (by simp [*]) ?_
         refine NB.no (by simp [*]) ?_
         apply NDr.pure
         ·refine NB.no (by simp [*]) ?_
          exact ⟨rfl, rfl⟩
         refine NP.mk (by kernel_rfl) ?_
         refine NW.w ?_
         exact (Canon.mk [] rfl fin)
        refine NB.no (by simp [*]) ?_
        refine NB.no (by simp [*]) ?_
        refine NB.no (by simp [*]) ?_
        apply NDr.pure
        ·refine NB.no (by simp [*]) ?_
         exact ⟨rfl, rfl⟩
        refine NDr.w _ ?_
        refine NDr.w _ ?_
        refine NP.mk (by kernel_rfl) ?_
        refine NW.w ?_
        exact (Canon.mk [] rfl fin)
      ·have : k' = l[0].drops.length := by omega
       have htk := all_end (p := fun x => !ownBad node seq l[0] x) (this ▸ htk)
       refine NP.mk (by omega) ?_
       refine NG.mapN (by omega) ?_
       refine ND.no (by (simp only [zLm, zLa, zLr, zLc, zLn, zLt, zLd]; omega)) ?_
       refine NW.w ?_
       exact Canon.mk [] rfl ⟨l.length - (0 + 1), by omega, 0 + 1, by omega, rfl, seen_zero hil (hone htk), rfl, rfl⟩
    | succ k =>
     have ek : Int.toNat (((k + 1 : Nat) : Int) - 1) = k := by omega
     cases hr : atLt l[k] l[k + 1] with
     | false =>
      have hr' := hr
      unfold atLt at hr'
      rw [decide_eq_false_iff_not] at hr'
      rw [seen_r hil hr]
      refine ND.yes (by (simp only [zLm, zLa, zLr, zLc, zLn, zLt, zLd]; omega)) ?_
      refine NP.mk (by omega) ?_
      refine NG.mapN (by omega) ?_
      refine NCall.call (h1) rfl rfl ?_
      refine NP.mk (by kernel_rfl) ?_
      refine NDr.w _ ?_
      apply NDr.pure
      ·refine ND.yes (by omega) ?_
       exact ⟨rfl, rfl⟩
      refine NDr.w _ ?_
      refine NDr.w _ ?_
      refine NDr.w _ ?_
      apply NDr.pure
      ·refine NP.mk (by omega) ?_
       refine NG.mapN (by omega) ?_
       exact ⟨rfl, rfl⟩
      refine NDr.w _ ?_
      refine NDr.w _ ?_
      refine NDr.w _ ?_
      refine NDr.w _ ?_
      apply NDr.pure
      ·refine NW.w ?_
       exact ⟨rfl, rfl⟩
      apply NDr.pure
      ·refine NP.mk (by omega) ?_
       rw [(ek)]
       refine NG.mapN (by omega) ?_
       exact ⟨rfl, rfl⟩
      refine NDr.w _ ?_
      refine NDr.w _ ?_
      apply NDr.pure
      ·refine ND.yes (by omega) ?_
       exact ⟨rfl, rfl⟩
      refine NDr.w _ ?_
      refine NP.mk (by kernel_rfl) ?_
      exact NRet.mk [] rfl ⟨.refl _, rfl⟩
     | true =>
      have hr' := hr
      unfold atLt at hr'
      rw [decide_eq_true_eq] at hr'
      refine ND.yes (by (simp only [zLm, zLa, zLr, zLc, zLn, zLt, zLd]; omega)) ?_
      refine NP.mk (by omega) ?_
      refine NG.mapN (by omega) ?_
      refine NCall.call (h1) rfl rfl ?_
      refine NP.mk (by kernel_rfl) ?_
      refine NDr.w _ ?_
      apply NDr.pure
      ·refine ND.yes (by omega) ?_
       exact ⟨rfl, rfl⟩
      refine NDr.w _ ?_
      refine NDr.w _ ?_
      refine NDr.w _ ?_
      apply NDr.pure
      ·refine NP.mk (by omega) ?_
       refine NG.mapN (by omega) ?_
       exact ⟨rfl, rfl⟩
      refine NDr.w _ ?_
      refine NDr.w _ ?_
      refine NDr.w _ ?_
      refine NDr.w _ ?_
      apply NDr.pure
      ·refine NW.w ?_
       exact ⟨rfl, rfl⟩
      apply NDr.pure
      ·refine NP.mk (by omega) ?_
       rw [(ek)]
       refine NG.mapN (by omega) ?_
       exact ⟨rfl, rfl⟩
      refine NDr.w _ ?_
      refine NDr.w _ ?_
      apply NDr.pure
      ·refine ND.no (by omega) ?_
       exact ⟨rfl, rfl⟩
      refine NDr.w _ ?_
      refine NP.mk (by kernel_rfl) ?_
      refine NLoop.mk [] [0, 1, 2, 7, 8] (fun m vs H => ∃ k', k' ≤ l[k + 1].drops.length ∧ m = l[k + 1].drops.length - k' ∧ (∀ x ∈ l[k + 1].drops.take k', (!ownBad node seq l[k + 1] x) = true) ∧ H = [] ∧ vs = [i64 node, i64 seq, effsA l, i64 ((k + 1 : Nat) : Int), i64 k']) rfl ?_ ?_
      ·exact Canon.mk [] rfl ⟨l[k + 1].drops.length, 0, Nat.zero_le _, rfl, by simp, rfl, rfl⟩
      ·rintro m vs H ⟨k', hk', rfl, htk, rfl, rfl⟩
       by_cases hkl : k' < l[k + 1].drops.length
       ·obtain ⟨g1, g2⟩ := all_step (p := fun x => !ownBad node seq l[k + 1] x) hkl htk
        cases hb : ownBad node seq l[k + 1] l[k + 1].drops[k'] with
        | true =>
         rw [seen_p hil (hzero (g1 (by rw [hb]; rfl)))]
         have hb' := hb
         unfold ownBad at hb'
         rw [decide_eq_true_eq] at hb'
         refine NP.mk (by omega) ?_
         refine NG.mapN (by omega) ?_
         refine ND.yes (by (simp only [zLm, zLa, zLr, zLc, zLn, zLt, zLd]; omega)) ?_
         refine NP.mk (by omega) ?_
         refine NG.mapN (by omega) ?_
         refine NP.mk (by omega) ?_
         refine NG.mapN (by omega) ?_
         refine NP.mk (by kernel_rfl) ?_
         apply NDr.rd [0]
         ·intro fH TH
          exact ⟨rfl, rfl⟩
         apply NDr.rd [0]
         ·intro fH TH
          exact ⟨rfl, rfl⟩
         refine NDr.w _ ?_
         apply NDr.pure
         ·refine ND.yes (by omega) ?_
          exact ⟨rfl, rfl⟩
         refine NDr.w _ ?_
         apply NDr.rd [0]
         ·intro fH TH
          exact ⟨rfl, rfl⟩
         apply NDr.rd [0]
         ·intro fH TH
          exact ⟨rfl, rfl⟩
         refine NDr.w _ ?_
         apply NDr.pure
         ·refine ND.yes (by omega) ?_
          exact ⟨rfl, rfl⟩
         refine NDr.w _ ?_
         refine NDr.w _ ?_
         apply NDr.rd [0]
         ·intro fH TH
          exact ⟨rfl, rfl⟩
         apply NDr.rd [0]
         ·intro fH TH
          exact ⟨rfl, rfl⟩
         refine NDr.w _ ?_
         refine NDr.w _ ?_
         apply NDr.pure
         ·refine NP.mk (by omega) ?_
          refine NG.mapN (by omega) ?_
          exact ⟨rfl, rfl⟩
         refine NDr.w _ ?_
         refine NDr.w _ ?_
         apply NDr.pure
         ·refine ND.yes (by omega) ?_
          exact ⟨rfl, rfl⟩
         refine NDr.w _ ?_
         refine NP.mk (by kernel_rfl) ?_
         exact NRet.mk [] rfl ⟨.refl _, rfl⟩
        | false =>
         have hb' := hb
         unfold ownBad at hb'
         rw [decide_eq_false_iff_not] at hb'
         have fin : ∃ m', m' < l[k + 1].drops.length - k' ∧ ∃ k'', k'' ≤ l[k + 1].drops.length ∧ m' = l[k + 1].drops.length - k'' ∧ (∀ x ∈ l[k + 1].drops.take k'', (!ownBad node seq l[k + 1] x) = true) ∧ ([] : List Blk) = [] ∧ [i64 node, i64 seq, effsA l, i64 ((k + 1 : Nat) : Int), i64 ((k' + 1 : Nat) : Int)] = [i64 node, i64 seq, effsA l, i64 ((k + 1 : Nat) : Int), i64 k''] :=
          ⟨l[k + 1].drops.length - (k' + 1), by omega, k' + 1, by omega, rfl, g2 (by rw [hb]; rfl), rfl, rfl⟩
         refine NP.mk (by omega) ?_
         refine NG.mapN (by omega) ?_
         refine ND.yes (by (simp only [zLm, zLa, zLr, zLc, zLn, zLt, zLd]; omega)) ?_
         refine NP.mk (by omega) ?_
         refine NG.mapN (by omega) ?_
         refine NP.mk (by omega) ?_
         refine NG.mapN (by omega) ?_
         refine NP.mk (by kernel_rfl) ?_
         apply NDr.rd [0]
         ·intro fH TH
          exact ⟨rfl, rfl⟩
         apply NDr.rd [0]
         ·intro fH TH
          exact ⟨rfl, rfl⟩
         refine NDr.w _ ?_
         apply NDr.pure
         ·exact NB.det
         refine NDr.w _ ?_
         refine NB.mk (fun hk3 => ?_) (fun hk3 => ?_)
         ·apply NDr.rd [0]
          ·intro fH TH
           exact ⟨rfl, rfl⟩
          refine NB.yes (by simp [*]) ?_
          apply NDr.rd [0]
          ·intro fH TH
           exact ⟨rfl, rfl⟩
          refine NB.yes (by simp [*]) ?_
          refine NDr.w _ ?_
          refine NB.yes (by simp [*]) ?_
          apply NDr.pure
          ·exact NB.det
          apply NDr.pure
          ·refine NB.yes (by simp [*]) ?_
           exact ⟨rfl, rfl⟩
          refine NDr.w _ ?_
          refine NB.mk (fun hk9 => ?_) (fun hk9 => ?_)
          ·apply NDr.rd [0]
           ·intro fH TH
            exact ⟨rfl, rfl⟩
           refine NB.yes (by simp [*]) ?_
           apply NDr.rd [0]
           ·intro fH TH
            exact ⟨rfl, rfl⟩
           refine NB.yes (by simp [*]) ?_
           refine NDr.w _ ?_
           refine NB.yes (by simp [*]) ?_
           refine NDr.w _ ?_
           refine NB.yes (by simp [*]) ?_
           apply NDr.pure
           ·refine NP.mk (by omega) ?_
            refine NG.mapN (by omega) ?_
            exact ⟨rfl, rfl⟩
           refine NB.yes (by simp [*]) ?_
           refine NDr.w _ ?_
           refine NB.yes (by simp [*]) ?_
           refine NDr.w _ ?_
           refine NB.yes (by simp [*]) ?_
           apply NDr.pure
           ·exact NB.det
           apply NDr.pure
           ·refine NB.yes (by simp [*]) ?_
            exact ⟨rfl, rfl⟩
           refine NP.mk (by kernel_rfl) ?_
           refine NB.mk (fun hk19 => ?_) (fun hk19 => ?_)
           ·refine NRet.boolE (b := false) ?_ (NRet.mk [] rfl ⟨.refl _, rfl⟩)
            grind
           refine NW.w ?_
           exact (Canon.mk [] rfl fin)
          refine NB.no (by simp [*]) ?_
          refine NB.no (by simp [*]) ?_
          refine NB.no (by simp [*]) ?_
          refine NB.no (by simp [*]) ?_
          refine NB.no (by simp [*]) ?_
          refine NB.no (by simp [*]) ?_
          refine NB.no (by simp [*]) ?_
          apply NDr.pure
          ·refine NB.no (by simp [*]) ?_
           exact ⟨rfl, rfl⟩
          refine NP.mk (by kernel_rfl) ?_
          refine NW.w ?_
          exact (Canon.mk [] rfl fin)
         refine NB.no (by simp [*]) ?_
         refine NB.no (by simp [*]) ?_
         refine NB.no (by simp [*]) ?_
         apply NDr.pure
         ·refine NB.no (by simp [*]) ?_
          exact ⟨rfl, rfl⟩
         refine NDr.w _ ?_
         refine NDr.w _ ?_
         refine NP.mk (by kernel_rfl) ?_
         refine NW.w ?_
         exact (Canon.mk [] rfl fin)
       ·have : k' = l[k + 1].drops.length := by omega
        have htk := all_end (p := fun x => !ownBad node seq l[k + 1] x) (this ▸ htk)
        refine NP.mk (by omega) ?_
        refine NG.mapN (by omega) ?_
        refine ND.no (by (simp only [zLm, zLa, zLr, zLc, zLn, zLt, zLd]; omega)) ?_
        refine NW.w ?_
        exact Canon.mk [] rfl ⟨l.length - (k + 1 + 1), by omega, k + 1 + 1, by omega, rfl, seen_succ hil hs (hone htk) hr, rfl, rfl⟩
  ·have : i = l.length := by omega
   subst this
   rw [seen_end hs]
   refine ND.no (by (simp only [zLm, zLa, zLr, zLc, zLn, zLt, zLd]; omega)) ?_
   exact NRet.mk [] rfl ⟨.refl _, rfl⟩
theorem rightF_walk (node seq : Int) (e : Eff) (d : Dot) : ACalls Tryz.prog Nm.eff_Right_1 [dotA d, .ptr 0 0 0, .ptr 1 0 0, .ptr 2 0 0] [.row .box .leaf [i64 node], .row .box .leaf [i64 seq], .row .box (.agg 7) [effA e]] (.bool (ownBad node seq e d)) [.row .box .leaf [i64 node], .row .box .leaf [i64 seq], .row .box (.agg 7) [effA e]] := by
 refine ACalls_of tab (dr_snd tab mixed) Nm.eff_Right_1_h rfl (by kernel_rfl) (Nat.le_of_ble_eq_true rfl) rfl ?_
 rw [ownBad]
 refine NB.dec (fun hk1 => ?_) (fun hk1 => ?_)
 ·refine NB.dec (fun hk2 => ?_) (fun hk2 => ?_)
  ·refine NB.dec (fun hk3 => ?_) (fun hk3 => ?_)
   ·refine NRet.boolE (b := true) ?_ (NRet.mk [] rfl ⟨.refl _, rfl⟩)
    (simp only [decide_eq_true_eq, decide_eq_false_iff_not, eq_comm (a := true), eq_comm (a := false)]; omega)
   refine NRet.boolE (b := false) ?_ (NRet.mk [] rfl ⟨.refl _, rfl⟩)
   (simp only [decide_eq_true_eq, decide_eq_false_iff_not, eq_comm (a := true), eq_comm (a := false)]; omega)
  refine NRet.boolE (b := false) ?_ (NRet.mk [] rfl ⟨.refl _, rfl⟩)
  (simp only [decide_eq_true_eq, decide_eq_false_iff_not, eq_comm (a := true), eq_comm (a := false)]; omega)
 refine NRet.boolE (b := false) ?_ (NRet.mk [] rfl ⟨.refl _, rfl⟩)
 (simp only [decide_eq_true_eq, decide_eq_false_iff_not, eq_comm (a := true), eq_comm (a := false)]; omega)
def H3 (node seq : Int) (e : Eff) : List Blk := [.row .box .leaf [i64 node], .row .box .leaf [i64 seq], .row .box (.agg 7) [effA e]]
/-- slices.IndexFunc of dots; the function looks into three boxes. -/
theorem indexD_walk (g : Nat) (node seq : Int) (e : Eff) (l : List Dot) (p : Dot → Bool) (hl : l.length ≤ 2 ^ 40) (hg : ∀ d ∈ l, ACalls Tryz.prog g [dotA d, .ptr 0 0 0, .ptr 1 0 0, .ptr 2 0 0] (H3 node seq e) (.bool (p d)) (H3 node seq e)) :
  ACalls Tryz.prog Nm.slices_IndexFunc_api_Dot_api_Dot [dotsA l, .fn g [.ptr 0 0 0, .ptr 1 0 0, .ptr 2 0 0]] (H3 node seq e) (i64 (ixI p l)) (H3 node seq e) := by
 unfold H3 at *
 refine ACalls_of tab (dr_snd tab mixed) Nm.slices_IndexFunc_api_Dot_api_Dot_h rfl (by kernel_rfl) (Nat.le_of_ble_eq_true rfl) rfl ?_
 refine NLoop.mk [] [0, 1, 6, 7, 8] (fun m vs H => ∃ i, i ≤ l.length ∧ m = l.length - i ∧ (∀ x ∈ l.take i, p x = false) ∧ H = [.row .box .leaf [i64 node], .row .box .leaf [i64 seq], .row .box (.agg 7) [effA e]] ∧ vs = [dotsA l, .fn g [.ptr 0 0 0, .ptr 1 0 0, .ptr 2 0 0], dotsA l, i64 l.length, i64 i]) rfl ?_ ?_
 ·exact Canon.mk [] rfl ⟨l.length, 0, Nat.zero_le _, rfl, by simp, rfl, by simp [dotsA, i64]⟩
 ·rintro m vs H ⟨i, hi, rfl, ht, rfl, rfl⟩
  by_cases hil : i < l.length
  ·have hc := hg _ (List.getElem_mem hil)
   obtain ⟨f1, f2⟩ := find_step hil ht
   cases hp : p l[i] with
   | true =>
    rw [hp] at hc
    rw [f1 hp]
    refine ND.yes (by omega) ?_
    refine NP.mk (by omega) ?_
    refine NG.mapN (by omega) ?_
    refine NCall.atA (hc) ?_
    exact NRet.mk [] rfl ⟨.refl _, rfl⟩
   | false =>
    rw [hp] at hc
    refine ND.yes (by omega) ?_
    refine NP.mk (by omega) ?_
    refine NG.mapN (by omega) ?_
    refine NCall.atA (hc) ?_
    refine NW.w ?_
    exact Canon.mk [] rfl ⟨l.length - (i + 1), by omega, i + 1, by omega, rfl, f2 hp, rfl, rfl⟩
  ·have : i = l.length := by omega
   subst this
   rw [List.take_length] at ht
   rw [find_none ht]
   refine ND.no (by omega) ?_
   exact NRet.mk [] rfl ⟨.refl _, rfl⟩
theorem containsD_walk (g : Nat) (node seq : Int) (e : Eff) (l : List Dot) (p : Dot → Bool) (hl : l.length ≤ 2 ^ 40) (hg : ∀ d ∈ l, ACalls Tryz.prog g [dotA d, .ptr 0 0 0, .ptr 1 0 0, .ptr 2 0 0] (H3 node seq e) (.bool (p d)) (H3 node seq e)) :
  ACalls Tryz.prog Nm.slices_ContainsFunc_api_Dot_api_Dot [dotsA l, .fn g [.ptr 0 0 0, .ptr 1 0 0, .ptr 2 0 0]] (H3 node seq e) (.bool (l.any p)) (H3 node seq e) := by
 have hi := indexD_walk g node seq e l p hl hg
 unfold H3 at *
 refine ACalls_of tab (dr_snd tab mixed) Nm.slices_ContainsFunc_api_Dot_api_Dot_h rfl (by kernel_rfl) (Nat.le_of_ble_eq_true rfl) rfl ?_
 rw [ixI_any]
 by_cases h : 0 ≤ ixI p l
 ·rw [decide_eq_true h]
  refine NCall.atA (hi) ?_
  refine ND.yes (by omega) ?_
  exact NRet.mk [] rfl ⟨.refl _, rfl⟩
 ·rw [decide_eq_false h]
  refine NCall.atA (hi) ?_
  refine ND.no (by omega) ?_
  exact NRet.mk [] rfl ⟨.refl _, rfl⟩
theorem right_walk (node seq : Int) (l : List Eff) (hl : l.length ≤ 2 ^ 40) (hx : ∀ e ∈ l, smEff e) : ACalls Tryz.prog Nm.eff_Right [i64 node, i64 seq, effsA l] [] (.bool (effsOk node seq l)) [] := by
 refine ACalls_of tab (dr_snd tab mixed) Nm.eff_Right_h rfl (by kernel_rfl) (Nat.le_of_ble_eq_true rfl) rfl ?_
 have e0 : effsOk node seq l = (l.all (eff1 node seq) && adj atLt l) := rfl
 rw [e0]
 refine NLoop.mk [] [2, 3, 4, 9, 10, 11] (fun m vs H => ∃ i, i ≤ l.length ∧ m = l.length - i ∧ Seen (eff1 node seq) atLt l i ∧ H = [.row .box .leaf [i64 node], .row .box .leaf [i64 seq]] ∧ vs = [effsA l, .ptr 0 0 0, .ptr 1 0 0, effsA l, i64 l.length, i64 i]) rfl ?_ ?_
 ·exact Canon.mk [0, 1] rfl ⟨l.length, 0, Nat.zero_le _, rfl, seen0 _ _ _, rfl, by simp [effsA, i64]⟩
 ·rintro m vs H ⟨i, hi, rfl, hs, rfl, rfl⟩
  by_cases hil : i < l.length
  ·have hxi := hx _ (List.getElem_mem hil)
   have h1 := effFormed_walk node seq l[i] hxi
   have h64 := hxi.2.2.2
   cases hp : effOk node seq l[i] with
   | false =>
    rw [hp] at h1
    rw [seen_p hil (by unfold eff1; rw [hp, Bool.false_and])]
    refine ND.yes (by omega) ?_
    refine NP.mk (by omega) ?_
    refine NG.mapN (by omega) ?_
    refine NP.mk (by kernel_rfl) ?_
    apply NDr.rd [0]
    ·intro fH TH
     exact ⟨rfl, rfl⟩
    apply NDr.rd [1]
    ·intro fH TH
     exact ⟨rfl, rfl⟩
    apply NDr.rd [2]
    ·intro fH TH
     exact ⟨rfl, rfl⟩
    apply NDr.pure
    ·refine NCall.call (h1) rfl rfl ?_
     exact ⟨rfl, rfl⟩
    refine NDr.w _ ?_
    refine NDr.w _ ?_
    refine NDr.w _ ?_
    refine NP.mk (by kernel_rfl) ?_
    exact NRet.mk [] rfl ⟨.refl _, rfl⟩
   | true =>
    rw [hp] at h1
    have h2 := containsD_walk Nm.eff_Right_1 node seq l[i] l[i].drops (ownBad node seq l[i]) h64 (fun d _ => rightF_walk node seq l[i] d)
    unfold H3 at h2
    cases hb : l[i].drops.any (ownBad node seq l[i]) with
    | true =>
     rw [hb] at h2
     have e1 : eff1 node seq l[i] = false := by unfold eff1; rw [hp, Bool.true_and, ownOk_any, hb]; rfl
     rw [seen_p hil e1]
     cases i with
     | zero =>
       refine ND.yes (by omega) ?_
       refine NP.mk (by omega) ?_
       refine NG.mapN (by omega) ?_
       refine NP.mk (by kernel_rfl) ?_
       apply NDr.rd [0]
       ·intro fH TH
        exact ⟨rfl, rfl⟩
       apply NDr.rd [1]
       ·intro fH TH
        exact ⟨rfl, rfl⟩
       apply NDr.rd [2]
       ·intro fH TH
        exact ⟨rfl, rfl⟩
       apply NDr.pure
       ·refine NCall.call (h1) rfl rfl ?_
        exact ⟨rfl, rfl⟩
       refine NDr.w _ ?_
       refine NDr.w _ ?_
       refine NDr.w _ ?_
       apply NDr.pure
       ·refine ND.no (by omega) ?_
        exact ⟨rfl, rfl⟩
       refine NDr.w _ ?_
       refine NDr.w _ ?_
       refine NDr.w _ ?_
       refine NP.mk (by kernel_rfl) ?_
       refine NCall.atA (h2) ?_
       exact NRet.mk [] rfl ⟨.refl _, rfl⟩
     | succ k =>
      have ek : Int.toNat (((k + 1 : Nat) : Int) - 1) = k := by omega
      refine ND.yes (by omega) ?_
      refine NP.mk (by omega) ?_
      refine NG.mapN (by omega) ?_
      refine NP.mk (by kernel_rfl) ?_
      apply NDr.rd [0]
      ·intro fH TH
       exact ⟨rfl, rfl⟩
      apply NDr.rd [1]
      ·intro fH TH
       exact ⟨rfl, rfl⟩
      apply NDr.rd [2]
      ·intro fH TH
       exact ⟨rfl, rfl⟩
      apply NDr.pure
      ·refine NCall.call (h1) rfl rfl ?_
       exact ⟨rfl, rfl⟩
      refine NDr.w _ ?_
      refine NDr.w _ ?_
      refine NDr.w _ ?_
      apply NDr.pure
      ·refine ND.yes (by omega) ?_
       exact ⟨rfl, rfl⟩
      refine NDr.w _ ?_
      refine NDr.w _ ?_
      refine NDr.w _ ?_
      apply NDr.pure
      ·refine NW.w ?_
       exact ⟨rfl, rfl⟩
      apply NDr.pure
      ·refine NP.mk (by omega) ?_
       rw [(ek)]
       refine NG.mapN (by omega) ?_
       exact ⟨rfl, rfl⟩
      refine NDr.w _ ?_
      refine NDr.w _ ?_
      apply NDr.rd [2]
      ·intro fH TH
       exact ⟨rfl, rfl⟩
      apply NDr.rd [2]
      ·intro fH TH
       exact ⟨rfl, rfl⟩
      apply NDr.pure
      ·exact NB.det
      refine NDr.w _ ?_
      refine NDr.w _ ?_
      refine NP.mk (by kernel_rfl) ?_
      refine NB.mk (fun hk4 => ?_) (fun hk4 => ?_)
      ·exact NRet.mk [] rfl ⟨.refl _, rfl⟩
      refine NCall.atA (h2) ?_
      exact NRet.mk [] rfl ⟨.refl _, rfl⟩
    | false =>
     rw [hb] at h2
     have e1 : eff1 node seq l[i] = true := by unfold eff1; rw [hp, Bool.true_and, ownOk_any, hb]; rfl
     cases i with
     | zero =>
      refine ND.yes (by omega) ?_
      refine NP.mk (by omega) ?_
      refine NG.mapN (by omega) ?_
      refine NP.mk (by kernel_rfl) ?_
      apply NDr.rd [0]
      ·intro fH TH
       exact ⟨rfl, rfl⟩
      apply NDr.rd [1]
      ·intro fH TH
       exact ⟨rfl, rfl⟩
      apply NDr.rd [2]
      ·intro fH TH
       exact ⟨rfl, rfl⟩
      apply NDr.pure
      ·refine NCall.call (h1) rfl rfl ?_
       exact ⟨rfl, rfl⟩
      refine NDr.w _ ?_
      refine NDr.w _ ?_
      refine NDr.w _ ?_
      apply NDr.pure
      ·refine ND.no (by omega) ?_
       exact ⟨rfl, rfl⟩
      refine NDr.w _ ?_
      refine NDr.w _ ?_
      refine NDr.w _ ?_
      refine NP.mk (by kernel_rfl) ?_
      refine NCall.atA (h2) ?_
      refine NW.w ?_
      exact Canon.mk [0, 1] rfl ⟨l.length - (0 + 1), by omega, 0 + 1, by omega, rfl, seen_zero hil e1, rfl, rfl⟩
     | succ k =>
      have ek : Int.toNat (((k + 1 : Nat) : Int) - 1) = k := by omega
      cases hr : atLt l[k] l[k + 1] with
      | false =>
       have hr' := hr
       unfold atLt at hr'
       rw [decide_eq_false_iff_not] at hr'
       rw [seen_r hil hr]
       refine ND.yes (by omega) ?_
       refine NP.mk (by omega) ?_
       refine NG.mapN (by omega) ?_
       refine NP.mk (by kernel_rfl) ?_
       apply NDr.rd [0]
       ·intro fH TH
        exact ⟨rfl, rfl⟩
       apply NDr.rd [1]
       ·intro fH TH
        exact ⟨rfl, rfl⟩
       apply NDr.rd [2]
       ·intro fH TH
        exact ⟨rfl, rfl⟩
       apply NDr.pure
       ·refine NCall.call (h1) rfl rfl ?_
        exact ⟨rfl, rfl⟩
       refine NDr.w _ ?_
       refine NDr.w _ ?_
       refine NDr.w _ ?_
       apply NDr.pure
       ·refine ND.yes (by omega) ?_
        exact ⟨rfl, rfl⟩
       refine NDr.w _ ?_
       refine NDr.w _ ?_
       refine NDr.w _ ?_
       apply NDr.pure
       ·refine NW.w ?_
        exact ⟨rfl, rfl⟩
       apply NDr.pure
       ·refine NP.mk (by omega) ?_
        rw [(ek)]
        refine NG.mapN (by omega) ?_
        exact ⟨rfl, rfl⟩
       refine NDr.w _ ?_
       refine NDr.w _ ?_
       apply NDr.rd [2]
       ·intro fH TH
        exact ⟨rfl, rfl⟩
       apply NDr.rd [2]
       ·intro fH TH
        exact ⟨rfl, rfl⟩
       apply NDr.pure
       ·refine ND.yes (by omega) ?_
        exact ⟨rfl, rfl⟩
       refine NDr.w _ ?_
       refine NDr.w _ ?_
       refine NP.mk (by kernel_rfl) ?_
       exact NRet.mk [] rfl ⟨.refl _, rfl⟩
      | true =>
       have hr' := hr
       unfold atLt at hr'
       rw [decide_eq_true_eq] at hr'
       refine ND.yes (by omega) ?_
       refine NP.mk (by omega) ?_
       refine NG.mapN (by omega) ?_
       refine NP.mk (by kernel_rfl) ?_
       apply NDr.rd [0]
       ·intro fH TH
        exact ⟨rfl, rfl⟩
       apply NDr.rd [1]
       ·intro fH TH
        exact ⟨rfl, rfl⟩
       apply NDr.rd [2]
       ·intro fH TH
        exact ⟨rfl, rfl⟩
       apply NDr.pure
       ·refine NCall.call (h1) rfl rfl ?_
        exact ⟨rfl, rfl⟩
       refine NDr.w _ ?_
       refine NDr.w _ ?_
       refine NDr.w _ ?_
       apply NDr.pure
       ·refine ND.yes (by omega) ?_
        exact ⟨rfl, rfl⟩
       refine NDr.w _ ?_
       refine NDr.w _ ?_
       refine NDr.w _ ?_
       apply NDr.pure
       ·refine NW.w ?_
        exact ⟨rfl, rfl⟩
       apply NDr.pure
       ·refine NP.mk (by omega) ?_
        rw [(ek)]
        refine NG.mapN (by omega) ?_
        exact ⟨rfl, rfl⟩
       refine NDr.w _ ?_
       refine NDr.w _ ?_
       apply NDr.rd [2]
       ·intro fH TH
        exact ⟨rfl, rfl⟩
       apply NDr.rd [2]
       ·intro fH TH
        exact ⟨rfl, rfl⟩
       apply NDr.pure
       ·refine ND.no (by omega) ?_
        exact ⟨rfl, rfl⟩
       refine NDr.w _ ?_
       refine NDr.w _ ?_
       refine NP.mk (by kernel_rfl) ?_
       refine NCall.atA (h2) ?_
       refine NW.w ?_
       exact Canon.mk [0, 1] rfl ⟨l.length - (k + 1 + 1), by omega, k + 1 + 1, by omega, rfl, seen_succ hil hs e1 hr, rfl, rfl⟩
  ·have : i = l.length := by omega
   subst this
   rw [seen_end hs]
   refine ND.no (by omega) ?_
   exact NRet.mk [] rfl ⟨.refl _, rfl⟩
end Go.Bv
namespace Go.Bv
open Go Go.Proofs
def lexR {α β : Type} (f : α → β) (r : β → β → Prop) (s : α → α → Prop) (a b : α) : Prop := r (f a) (f b) ∨ f a = f b ∧ s a b
@[instance_reducible] def lexD {α β : Type} [DecidableEq β] {f : α → β} {r : β → β → Prop} {s : α → α → Prop} [DecidableRel r] (hs : DecidableRel s) : DecidableRel (lexR f r s) := fun a b => have := hs a b; inferInstanceAs (Decidable (r (f a) (f b) ∨ f a = f b ∧ s a b))
theorem lex_irrefl {α β : Type} {f : α → β} {r : β → β → Prop} {s : α → α → Prop} (hr : ∀ x, ¬ r x x) (hs : ∀ x, ¬ s x x) : ∀ x, ¬ lexR f r s x x := fun x h => by
 rcases h with h | h
 ·exact hr _ h
 ·exact hs _ h.2
theorem lex_trans {α β : Type} {f : α → β} {r : β → β → Prop} {s : α → α → Prop} (hr : ∀ x y z, r x y → r y z → r x z) (hs : ∀ x y z, s x y → s y z → s x z) : ∀ x y z, lexR f r s x y → lexR f r s y z → lexR f r s x z := fun x y z h k => by
 rcases h with h | ⟨h1, h2⟩ <;> rcases k with k | ⟨k1, k2⟩
 ·exact .inl (hr _ _ _ h k)
 ·exact .inl (k1 ▸ h)
 ·exact .inl (h1 ▸ k)
 ·exact .inr ⟨h1.trans k1, hs _ _ _ h2 k2⟩
theorem lex_tri {α β : Type} {f : α → β} {r : β → β → Prop} {s E : α → α → Prop} (hr : ∀ x y, r x y ∨ x = y ∨ r y x) (hs : ∀ x y, s x y ∨ E x y ∨ s y x) : ∀ x y, lexR f r s x y ∨ (f x = f y ∧ E x y) ∨ lexR f r s y x := fun x y => by
 rcases hr (f x) (f y) with h | h | h
 ·exact .inl (.inl h)
 ·rcases hs x y with k | k | k
  ·exact .inl (.inr ⟨h, k⟩)
  ·exact .inr (.inl ⟨h, k⟩)
  ·exact .inr (.inr (.inr ⟨h.symm, k⟩))
 ·exact .inr (.inr (.inl h))
def ltS (a b : List UInt8) : Prop := a < b
instance : DecidableRel ltS := fun a b => inferInstanceAs (Decidable (a < b))
def ltZ (a b : Int) : Prop := a < b
instance : DecidableRel ltZ := fun a b => inferInstanceAs (Decidable (a < b))
def ltN (a b : Item) : Prop := ltZ a.n b.n
instance : DecidableRel ltN := fun a b => inferInstanceAs (Decidable (a.n < b.n))
def ILt : Item → Item → Prop := lexR Item.key ltS (lexR Item.field ltS (lexR Item.kind ltZ (lexR (fun x => x.dot.node) ltZ (lexR (fun x => x.dot.seq) ltZ (lexR (fun x => x.dot.at') ltZ (lexR Item.elem ltS ltN))))))
instance : DecidableRel ILt := lexD (lexD (lexD (lexD (lexD (lexD (lexD (inferInstanceAs (DecidableRel ltN))))))))
theorem ltS_irrefl (x : List UInt8) : ¬ ltS x x := List.lt_irrefl x
theorem ltS_trans (x y z : List UInt8) (h1 : ltS x y) (h2 : ltS y z) : ltS x z := List.lt_trans h1 h2
theorem ltS_tri (x y : List UInt8) : ltS x y ∨ x = y ∨ ltS y x := by
 by_cases h1 : x < y
 ·exact .inl h1
 ·by_cases h2 : y < x
  ·exact .inr (.inr h2)
  ·exact .inr (.inl (List.le_antisymm (List.not_lt.1 h2) (List.not_lt.1 h1)))
theorem ltZ_irrefl (x : Int) : ¬ ltZ x x := Int.lt_irrefl x
theorem ltZ_trans (x y z : Int) (h1 : ltZ x y) (h2 : ltZ y z) : ltZ x z := Int.lt_trans h1 h2
theorem ltZ_tri (x y : Int) : ltZ x y ∨ x = y ∨ ltZ y x := Int.lt_trichotomy x y
theorem ILt_irrefl (x : Item) : ¬ ILt x x := lex_irrefl ltS_irrefl (lex_irrefl ltS_irrefl (lex_irrefl ltZ_irrefl (lex_irrefl ltZ_irrefl (lex_irrefl ltZ_irrefl (lex_irrefl ltZ_irrefl (lex_irrefl ltS_irrefl fun x => ltZ_irrefl x.n)))))) x
theorem ILt_trans {x y z : Item} (h1 : ILt x y) (h2 : ILt y z) : ILt x z :=
 lex_trans ltS_trans (lex_trans ltS_trans (lex_trans ltZ_trans (lex_trans ltZ_trans (lex_trans ltZ_trans (lex_trans ltZ_trans (lex_trans ltS_trans fun x y z => ltZ_trans x.n y.n z.n)))))) x y z h1 h2
theorem ILt_tri (x y : Item) : ILt x y ∨ x = y ∨ ILt y x := by
 rcases lex_tri (f := Item.key) ltS_tri (lex_tri (f := Item.field) ltS_tri (lex_tri (f := Item.kind) ltZ_tri (lex_tri (f := fun x : Item => x.dot.node) ltZ_tri (lex_tri (f := fun x : Item => x.dot.seq) ltZ_tri (lex_tri (f := fun x : Item => x.dot.at') ltZ_tri
  (lex_tri (f := Item.elem) ltS_tri (s := ltN) (E := fun a b => a.n = b.n) fun x y => ltZ_tri x.n y.n)))))) x y with h | ⟨h1, h2, h3, h4, h5, h6, h7, h8⟩ | h
 ·exact .inl h
 ·exact .inr (.inl (Item.ext h1 h2 h3 h7 h8 (Dot.ext h4 h5 h6)))
 ·exact .inr (.inr h)
def ltI (a b : Item) : Bool := decide (ILt a b)
instance : Inhabited Item := ⟨⟨[], [], 0, [], 0, ⟨0, 0, 0⟩⟩⟩
theorem swoI : Go.Sort.SWO ltI where
 irrefl x := decide_eq_false (ILt_irrefl x)
 trans x y z h1 h2 := decide_eq_true (ILt_trans (of_decide_eq_true h1) (of_decide_eq_true h2))
 ntrans x y z h1 h2 := decide_eq_false fun h => by
  have h1 := of_decide_eq_false h1
  have h2 := of_decide_eq_false h2
  rcases ILt_tri x y with k | rfl | k
  ·exact h1 k
  ·exact h2 h
  ·exact h2 (ILt_trans k h)
def leI (x y : Item) : Bool := !ltI y x
def isort (l : List Item) : List Item := l.mergeSort leI
theorem pdq_isort (l : List Item) (limit : Nat) : (Go.Sort.pdq ltI l.toArray 0 l.length limit true true).toList = isort l := by
 have h := Go.Sort.pdq_sorts ltI swoI l.toArray 0 l.length limit true true (Nat.zero_le _) (by simp) (Or.inl rfl)
 have := Go.Sort.sorted_unique_holds swoI (fun x y h1 h2 => by
  rcases ILt_tri x y with k | k | k
  ·exact absurd k (of_decide_eq_false h1)
  ·exact k
  ·exact absurd k (of_decide_eq_false h2)) l.toArray _ (by simpa using h.1) (by simpa using h.2)
 exact this
theorem isort_perm (l : List Item) : (isort l).Perm l := List.mergeSort_perm _ _
theorem isort_pw (l : List Item) : (isort l).Pairwise fun a b => ¬ ILt b a := by
 have := List.pairwise_mergeSort (le := leI) (fun a b c h1 h2 => by
  unfold leI at *
  simp only [Bool.not_eq_true'] at *
  exact swoI.ntrans c b a h2 h1) (fun a b => by
  unfold leI ltI
  rcases ILt_tri a b with k | rfl | k
  ·have : ¬ ILt b a := fun h => ILt_irrefl _ (ILt_trans h k)
   simp [this]
  ·simp [ILt_irrefl]
  ·have : ¬ ILt a b := fun h => ILt_irrefl _ (ILt_trans h k)
   simp [this]) l
 exact this.imp fun h => by unfold leI ltI at h; simpa using h
/-- Of each dot the first one. -/
def nubF : List Dot → List Item → List Item
 | _, [] => []
 | seen, x :: r => if x.dot ∈ seen then nubF seen r else x :: nubF (x.dot :: seen) r
def norm (l : List Item) : List Item := nubF [] (isort l)
theorem nubF_sub : ∀ (seen : List Dot) (l : List Item), (nubF seen l).Sublist l
 | _, [] => .slnil
 | seen, x :: r => by
  rw [nubF]
  split
  ·exact (nubF_sub seen r).cons _
  ·exact (nubF_sub _ r).cons_cons _
theorem nubF_mem : ∀ {l : List Item} (seen : List Dot), l.Pairwise (fun a b => ¬ ILt b a) → ∀ x, x ∈ nubF seen l ↔ x.dot ∉ seen ∧ x ∈ l ∧ ∀ y ∈ l, y.dot = x.dot → ¬ ILt y x
 | [], seen, _, x => by simp [nubF]
 | a :: r, seen, h, x => by
  rw [List.pairwise_cons] at h
  rw [nubF]
  split
  ·rename_i ha
   rw [nubF_mem seen h.2 x]
   constructor
   ·rintro ⟨h1, h2, h3⟩
    refine ⟨h1, List.mem_cons_of_mem _ h2, fun y hy e => ?_⟩
    rcases List.mem_cons.1 hy with rfl | hy
    ·exact absurd (e ▸ ha) h1
    ·exact h3 y hy e
   ·rintro ⟨h1, h2, h3⟩
    refine ⟨h1, ?_, fun y hy => h3 y (List.mem_cons_of_mem _ hy)⟩
    rcases List.mem_cons.1 h2 with rfl | h2
    ·exact absurd ha h1
    ·exact h2
  ·rename_i ha
   rw [List.mem_cons, nubF_mem _ h.2 x]
   constructor
   ·rintro (rfl | ⟨h1, h2, h3⟩)
    ·refine ⟨ha, List.mem_cons_self .., fun y hy _ => ?_⟩
     rcases List.mem_cons.1 hy with rfl | hy
     ·exact ILt_irrefl _
     ·exact h.1 y hy
    ·rw [List.mem_cons, not_or] at h1
     refine ⟨h1.2, List.mem_cons_of_mem _ h2, fun y hy e => ?_⟩
     rcases List.mem_cons.1 hy with rfl | hy
     ·exact absurd e.symm h1.1
     ·exact h3 y hy e
   ·rintro ⟨h1, h2, h3⟩
    by_cases e : x.dot = a.dot
    ·refine .inl ?_
     rcases List.mem_cons.1 h2 with rfl | h2
     ·rfl
     ·rcases ILt_tri x a with k | k | k
      ·exact absurd k (h.1 x h2)
      ·exact k
      ·exact absurd k (h3 a (List.mem_cons_self ..) e.symm)
    ·refine .inr ⟨by rw [List.mem_cons, not_or]; exact ⟨e, h1⟩, ?_, fun y hy => h3 y (List.mem_cons_of_mem _ hy)⟩
     rcases List.mem_cons.1 h2 with rfl | h2
     ·exact absurd rfl e
     ·exact h2
theorem nubF_seen : ∀ (l : List Item) (seen : List Dot), ∀ x ∈ nubF seen l, x.dot ∉ seen
 | [], _, x, h => by simp [nubF] at h
 | a :: r, seen, x, h => by
  rw [nubF] at h
  split at h
  ·exact nubF_seen r seen x h
  ·rcases List.mem_cons.1 h with rfl | h
   ·assumption
   ·exact fun hx => nubF_seen r _ x h (List.mem_cons_of_mem _ hx)
theorem nubF_dots : ∀ (l : List Item) (seen : List Dot), (nubF seen l).Pairwise fun a b => a.dot ≠ b.dot
 | [], _ => by simp [nubF]
 | a :: r, seen => by
  rw [nubF]
  split
  ·exact nubF_dots r seen
  ·refine List.pairwise_cons.2 ⟨fun x hx e => nubF_seen r _ x hx ?_, nubF_dots r _⟩
   rw [← e]; exact List.mem_cons_self ..
/-- What of some items is the least of its dot. -/
def Lst (l : List Item) (x : Item) : Prop := x ∈ l ∧ ∀ y ∈ l, y.dot = x.dot → ¬ ILt y x
theorem mem_norm {l : List Item} {x : Item} : x ∈ norm l ↔ Lst l x := by
 unfold norm
 rw [nubF_mem [] (isort_pw l)]
 simp only [List.not_mem_nil, not_false_eq_true, true_and, (isort_perm l).mem_iff]
 rfl
theorem norm_dots (l : List Item) : (norm l).Pairwise fun a b => a.dot ≠ b.dot := nubF_dots _ _
theorem norm_pw (l : List Item) : (norm l).Pairwise ILt := by
 refine (norm_dots l).imp₂ ?_ ((isort_pw l).sublist (nubF_sub [] _))
 intro a b h1 h2
 rcases ILt_tri a b with k | rfl | k
 ·exact k
 ·exact absurd rfl h1
 ·exact absurd k h2
theorem pwI_eq {l m : List Item} (hl : l.Pairwise ILt) (hm : m.Pairwise ILt) (h : ∀ x, x ∈ l ↔ x ∈ m) : l = m := by
 have nl : l.Nodup := hl.imp fun {a b} h => fun e => ILt_irrefl b (by rwa [e] at h)
 have nm : m.Nodup := hm.imp fun {a b} h => fun e => ILt_irrefl b (by rwa [e] at h)
 refine List.Perm.eq_of_pairwise (le := ILt) ?_ hl hm ((List.perm_ext_iff_of_nodup nl nm).2 h)
 intro a b _ _ h1 h2
 exact absurd (ILt_trans h1 h2) (ILt_irrefl a)
theorem norm_eq {l m : List Item} (h : ∀ x, Lst l x ↔ Lst m x) : norm l = norm m :=
 pwI_eq (norm_pw l) (norm_pw m) fun x => by rw [mem_norm, mem_norm]; exact h x
theorem norm_congr {l m : List Item} (h : ∀ x, x ∈ l ↔ x ∈ m) : norm l = norm m := norm_eq fun x => by
 unfold Lst
 simp only [h]
theorem norm_is {l m : List Item} (hm : m.Pairwise ILt) (h : ∀ x, x ∈ m ↔ Lst l x) : norm l = m :=
 pwI_eq (norm_pw l) hm fun x => by rw [mem_norm, h]
theorem norm_self {l : List Item} (h : l.Pairwise ILt) (hd : l.Pairwise fun a b => a.dot ≠ b.dot) : norm l = l := norm_is h fun x => by
 refine ⟨fun hx => ⟨hx, fun y hy e => ?_⟩, fun hx => hx.1⟩
 have : y = x := by
  rw [List.pairwise_iff_getElem] at hd
  obtain ⟨i, hi, rfl⟩ := List.getElem_of_mem hx
  obtain ⟨j, hj, rfl⟩ := List.getElem_of_mem hy
  rcases Nat.lt_trichotomy i j with k | rfl | k
  ·exact absurd e.symm (hd i j hi hj k)
  ·rfl
  ·exact absurd e (hd j i hj hi k)
 rw [this]; exact ILt_irrefl x
theorem norm_idem (l : List Item) : norm (norm l) = norm l := norm_self (norm_pw l) (norm_dots l)
theorem norm_mem {l : List Item} {x : Item} (h : x ∈ norm l) : x ∈ l := (mem_norm.1 h).1
theorem ex_min : ∀ {l : List Item}, l ≠ [] → ∃ z ∈ l, ∀ w ∈ l, ¬ ILt w z
 | [], h => absurd rfl h
 | a :: r, _ => by
  by_cases hr : r = []
  ·subst hr
   exact ⟨a, List.mem_cons_self .., fun w hw => by rw [List.mem_singleton.1 hw]; exact ILt_irrefl a⟩
  ·obtain ⟨z, hz, hm⟩ := ex_min hr
   by_cases h : ILt a z
   ·refine ⟨a, List.mem_cons_self .., fun w hw k => ?_⟩
    rcases List.mem_cons.1 hw with rfl | hw
    ·exact ILt_irrefl _ k
    ·exact hm w hw (ILt_trans k h)
   ·refine ⟨z, List.mem_cons_of_mem _ hz, fun w hw => ?_⟩
    rcases List.mem_cons.1 hw with rfl | hw
    ·exact h
    ·exact hm w hw
theorem ex_lst {l : List Item} {y : Item} (h : y ∈ l) : ∃ z, Lst l z ∧ z.dot = y.dot ∧ ¬ ILt y z := by
 have hy : y ∈ l.filter fun x => decide (x.dot = y.dot) := by simp [h]
 obtain ⟨z, hz, hm⟩ := ex_min (List.ne_nil_of_mem hy)
 simp only [List.mem_filter, decide_eq_true_eq] at hz hm
 exact ⟨z, ⟨hz.1, fun w hw e => hm w ⟨hw, e.trans hz.2⟩⟩, hz.2, hm y ⟨h, rfl⟩⟩
theorem Lst.le {l : List Item} {x y : Item} (h : Lst l x) (hy : ∀ z, Lst l z → z.dot = x.dot → ¬ ILt z x) : y ∈ l → y.dot = x.dot → ¬ ILt y x := fun hy' e => h.2 y hy' e
/-- The least ones are enough. -/
theorem lst_le {l : List Item} {x : Item} (h : ∀ z, Lst l z → z.dot = x.dot → ¬ ILt z x) : ∀ y ∈ l, y.dot = x.dot → ¬ ILt y x := fun y hy e k => by
 obtain ⟨z, hz, ez, hn⟩ := ex_lst hy
 refine h z hz (ez.trans e) ?_
 rcases ILt_tri y z with k' | rfl | k'
 ·exact absurd k' hn
 ·exact k
 ·exact ILt_trans k' k
theorem lst_of {l m : List Item} (h : norm l = norm m) (x : Item) : Lst l x ↔ Lst m x := by
 rw [← mem_norm, ← mem_norm, h]
theorem norm_app {l m : List Item} (h : norm l = norm m) (c : List Item) : norm (l ++ c) = norm (m ++ c) := by
 have hl := lst_of h
 have one : ∀ {l m : List Item}, (∀ x, Lst l x ↔ Lst m x) → ∀ x, Lst (l ++ c) x → Lst (m ++ c) x := by
  intro l m hl x hx
  have hle : ∀ y ∈ m ++ c, y.dot = x.dot → ¬ ILt y x := by
   intro y hy e
   rcases List.mem_append.1 hy with hy | hy
   ·refine lst_le (l := m) (fun z hz ez => ?_) y hy e
    exact hx.2 z (List.mem_append_left _ ((hl z).2 hz).1) ez
   ·exact hx.2 y (List.mem_append_right _ hy) e
  refine ⟨?_, hle⟩
  rcases List.mem_append.1 hx.1 with h1 | h1
  ·exact List.mem_append_left _ ((hl x).1 ⟨h1, fun y hy => hx.2 y (List.mem_append_left _ hy)⟩).1
  ·exact List.mem_append_right _ h1
 exact norm_eq fun x => ⟨one hl x, one (fun x => (hl x).symm) x⟩
theorem norm_filter {l m : List Item} (h : norm l = norm m) (p : Dot → Bool) : norm (l.filter fun x => p x.dot) = norm (m.filter fun x => p x.dot) := by
 have hl := lst_of h
 have one : ∀ {l m : List Item}, (∀ x, Lst l x ↔ Lst m x) → ∀ x, Lst (l.filter fun x => p x.dot) x → Lst (m.filter fun x => p x.dot) x := by
  intro l m hl x hx
  obtain ⟨h1, h2⟩ := hx
  rw [List.mem_filter] at h1
  have : Lst m x := (hl x).1 ⟨h1.1, fun y hy e => h2 y (List.mem_filter.2 ⟨hy, by rw [e]; exact h1.2⟩) e⟩
  exact ⟨List.mem_filter.2 ⟨this.1, h1.2⟩, fun y hy => this.2 y (List.mem_filter.1 hy).1⟩
 exact norm_eq fun x => ⟨one hl x, one (fun x => (hl x).symm) x⟩
def putI : List Item → Item → List Item
 | [], x => [x]
 | y :: r, x => if ltI y x then y :: putI r x else x :: y :: r
theorem putI_perm : ∀ (l : List Item) (x : Item), (putI l x).Perm (x :: l)
 | [], x => .refl _
 | y :: r, x => by
  rw [putI]
  split
  ·exact ((putI_perm r x).cons y).trans (.swap ..)
  ·exact .refl _
theorem putI_pw : ∀ {l : List Item} {x : Item}, l.Pairwise ILt → x ∉ l → (putI l x).Pairwise ILt
 | [], x, _, _ => by simp [putI]
 | y :: r, x, h, hx => by
  rw [List.pairwise_cons] at h
  rw [List.mem_cons, not_or] at hx
  rw [putI]
  split
  ·rename_i hyx
   refine List.pairwise_cons.2 ⟨fun z hz => ?_, putI_pw h.2 hx.2⟩
   rcases List.mem_cons.1 ((putI_perm r x).mem_iff.1 hz) with rfl | hz
   ·exact of_decide_eq_true hyx
   ·exact h.1 z hz
  ·rename_i hyx
   have hyx : ¬ ILt y x := fun k => hyx (decide_eq_true k)
   have : ILt x y := by
    rcases ILt_tri x y with k | k | k
    ·exact k
    ·exact absurd k hx.1
    ·exact absurd k hyx
   refine List.pairwise_cons.2 ⟨fun z hz => ?_, List.pairwise_cons.2 h⟩
   rcases List.mem_cons.1 hz with rfl | hz
   ·exact this
   ·exact ILt_trans this (h.1 z hz)
/-- Is the i-th the first of its dot? -/
def firstAt (l : List Item) (i : Nat) (x : Item) : Prop := ∀ (k : Nat) (y : Item), l[k]? = some y → y.dot = x.dot → ¬ ILt y x ∧ ¬ (y = x ∧ k < i)
theorem first_lst {l : List Item} {i : Nat} {x : Item} (h : l[i]? = some x) (hf : firstAt l i x) : Lst l x :=
 ⟨List.mem_of_getElem? h, fun y hy e => by
  obtain ⟨k, hk⟩ := List.getElem?_of_mem hy
  exact (hf k y hk e).1⟩
theorem ex_first {l : List Item} {x : Item} (h : Lst l x) : ∃ i, l[i]? = some x ∧ firstAt l i x := by
 obtain ⟨i, hi⟩ := List.getElem?_of_mem h.1
 induction i using Nat.strongRecOn with
 | _ i ih =>
  by_cases hk : ∃ k, k < i ∧ l[k]? = some x
  ·obtain ⟨k, hk, h2⟩ := hk
   exact ih k hk h2
  ·refine ⟨i, hi, fun k y hy e => ⟨h.2 y (List.mem_of_getElem? hy) e, fun ⟨e2, e3⟩ => hk ⟨k, e3, e2 ▸ hy⟩⟩⟩
theorem first_one {l : List Item} {i j : Nat} {x : Item} (hi : l[i]? = some x) (hj : l[j]? = some x) (h1 : firstAt l i x) (h2 : firstAt l j x) : i = j := by
 rcases Nat.lt_trichotomy i j with h | h | h
 ·exact absurd ⟨rfl, h⟩ (h2 i x hi rfl).2
 ·exact h
 ·exact absurd ⟨rfl, h⟩ (h1 j x hj rfl).2
/-- What is laid after i looks. -/
def Laid (l out : List Item) (i : Nat) : Prop := out.Pairwise ILt ∧ ∀ x, x ∈ out ↔ ∃ j, j < i ∧ l[j]? = some x ∧ firstAt l j x
theorem laid_zero (l : List Item) : Laid l [] 0 := ⟨.nil, fun x => by simp⟩
theorem laid_skip {l out : List Item} {i : Nat} {x : Item} (h : Laid l out i) (hx : l[i]? = some x) (hf : ¬ firstAt l i x) : Laid l out (i + 1) := by
 refine ⟨h.1, fun y => ?_⟩
 rw [h.2]
 refine ⟨fun ⟨j, h1, h2, h3⟩ => ⟨j, by omega, h2, h3⟩, fun ⟨j, h1, h2, h3⟩ => ⟨j, ?_, h2, h3⟩⟩
 rcases Nat.lt_or_ge j i with k | k
 ·exact k
 ·have : j = i := by omega
  subst this
  rw [hx] at h2
  exact absurd (Option.some.inj h2 ▸ h3) hf
theorem laid_put {l out : List Item} {i : Nat} {x : Item} (h : Laid l out i) (hx : l[i]? = some x) (hf : firstAt l i x) : Laid l (putI out x) (i + 1) := by
 have hn : x ∉ out := fun k => by
  obtain ⟨j, h1, h2, h3⟩ := (h.2 x).1 k
  have := first_one h2 hx h3 hf
  omega
 refine ⟨putI_pw h.1 hn, fun y => ?_⟩
 rw [(putI_perm out x).mem_iff, List.mem_cons, h.2]
 constructor
 ·rintro (rfl | ⟨j, h1, h2, h3⟩)
  ·exact ⟨i, by omega, hx, hf⟩
  ·exact ⟨j, by omega, h2, h3⟩
 ·rintro ⟨j, h1, h2, h3⟩
  rcases Nat.lt_or_ge j i with k | k
  ·exact .inr ⟨j, k, h2, h3⟩
  ·have : j = i := by omega
   subst this
   rw [hx] at h2
   exact .inl (Option.some.inj h2).symm
theorem laid_end {l out : List Item} (h : Laid l out l.length) : out = norm l := by
 refine (norm_is h.1 fun x => ?_).symm
 rw [h.2]
 exact ⟨fun ⟨j, _, h2, h3⟩ => first_lst h2 h3, fun hx => by
  obtain ⟨i, h1, h2⟩ := ex_first hx
  exact ⟨i, (List.getElem?_eq_some_iff.1 h1).1, h1, h2⟩⟩
theorem putI_at : ∀ (l : List Item) (x : Item) (i : Nat), i ≤ l.length → (∀ (j : Nat) (h : j < l.length), j < i → ltI l[j] x = true) → (∀ h : i < l.length, ltI l[i] x = false) → putI l x = l.take i ++ x :: l.drop i
 | [], x, i, hi, _, _ => by
  have : i = 0 := by simpa using hi
  subst this; rfl
 | y :: r, x, 0, _, _, h => by
  have := h (by simp)
  rw [putI, if_neg (by simpa using this)]; rfl
 | y :: r, x, i + 1, hi, h1, h2 => by
  have h0 := h1 0 (by simp) (by omega)
  rw [putI, if_pos (by simpa using h0), putI_at r x i (by simpa using hi) (fun j hj hji => h1 (j + 1) (by simpa using hj) (by omega)) (fun h => h2 (by simpa using h))]
  rfl
end Go.Bv
namespace Go.Bv
set_option linter.unusedSimpArgs false
set_option linter.unusedVariables false
set_option maxHeartbeats 4000000
set_option maxRecDepth 20000
open Go Go.Proofs
theorem bytesLess_lt : ∀ (x y : List UInt8), Op.bytesLess x y = decide (ltS x y)
 | x, [] => by cases x <;> simp [Op.bytesLess, ltS]
 | [], b :: y => by simp [Op.bytesLess, ltS]
 | a :: x, b :: y => by
  rw [Op.bytesLess, bytesLess_lt x y, Bool.eq_iff_iff]
  have e : ltS (a :: x) (b :: y) ↔ a < b ∨ a = b ∧ ltS x y := List.cons_lt_cons_iff
  simp only [Bool.or_eq_true, Bool.and_eq_true, decide_eq_true_eq, beq_iff_eq, e]
def cmpS (a b : List UInt8) : Int := if ltS a b then -1 else if ltS b a then 1 else 0
theorem isNaNS_walk (a : List UInt8) : ACalls Tryz.prog Nm.cmp_isNaN_string [.str a] [] (.bool false) [] := by
 refine ACalls_of tab (dr_snd tab mixed) Nm.cmp_isNaN_string_h rfl (by kernel_rfl) (Nat.le_of_ble_eq_true rfl) rfl ?_
 refine ND.yes (by rfl) ?_
 exact NRet.mk [] rfl ⟨.refl _, rfl⟩
theorem isNaN64_walk (a : Int) : ACalls Tryz.prog Nm.cmp_isNaN_int64 [i64 a] [] (.bool false) [] := by
 refine ACalls_of tab (dr_snd tab mixed) Nm.cmp_isNaN_int64_h rfl (by kernel_rfl) (Nat.le_of_ble_eq_true rfl) rfl ?_
 refine ND.yes (by omega) ?_
 exact NRet.mk [] rfl ⟨.refl _, rfl⟩
theorem compare64_walk (a b : Int) : ACalls Tryz.prog Nm.cmp_Compare_int64 [i64 a, i64 b] [] (i64 (cmpI a b)) [] := by
 refine ACalls_of tab (dr_snd tab mixed) Nm.cmp_Compare_int64_h rfl (by kernel_rfl) (Nat.le_of_ble_eq_true rfl) rfl ?_
 have h1 := isNaN64_walk a
 have h2 := isNaN64_walk b
 rw [cmpI]
 refine NCall.call (h1) rfl rfl ?_
 refine NCall.call (h2) rfl rfl ?_
 refine NB.dec (fun hk1 => ?_) (fun hk1 => ?_)
 ·refine NRet.intE ?_ (NRet.mk [] rfl ⟨.refl _, rfl⟩)
  omega
 refine NB.dec (fun hk2 => ?_) (fun hk2 => ?_)
 ·refine NRet.intE ?_ (NRet.mk [] rfl ⟨.refl _, rfl⟩)
  omega
 refine NRet.intE ?_ (NRet.mk [] rfl ⟨.refl _, rfl⟩)
 omega
theorem compareS_walk (a b : List UInt8) : ACalls Tryz.prog Nm.cmp_Compare_string [.str a, .str b] [] (i64 (cmpS a b)) [] := by
 refine ACalls_of tab (dr_snd tab mixed) Nm.cmp_Compare_string_h rfl (by kernel_rfl) (Nat.le_of_ble_eq_true rfl) rfl ?_
 have h1 := isNaNS_walk a
 have h2 := isNaNS_walk b
 rw [cmpS]
 by_cases h : ltS a b
 ·have e1 : Op.bytesLess a b = true := by rw [bytesLess_lt, decide_eq_true h]
  rw [if_pos h]
  refine NCall.call (h1) rfl rfl ?_
  refine NCall.call (h2) rfl rfl ?_
  refine ND.yes (by simp [*]) ?_
  exact NRet.mk [] rfl ⟨.refl _, rfl⟩
 ·have e1 : ¬ (Op.bytesLess a b = true) := by rw [bytesLess_lt, decide_eq_false h]; simp
  rw [if_neg h]
  by_cases k : ltS b a
  ·have hne : a ≠ b := fun e => ltS_irrefl b (by rw [e] at k; exact k)
   have e2 : ¬ ((Op.bytesLess a b || decide (a = b)) = true) := by rw [bytesLess_lt, decide_eq_false h, decide_eq_false hne]; simp
   rw [if_pos k]
   refine NCall.call (h1) rfl rfl ?_
   refine NCall.call (h2) rfl rfl ?_
   refine ND.no (by simp [*]) ?_
   refine ND.no (by simp [*]) ?_
   exact NRet.mk [] rfl ⟨.refl _, rfl⟩
  ·have he : a = b := by
    rcases ltS_tri a b with h' | h' | h'
    ·exact absurd h' h
    ·exact h'
    ·exact absurd h' k
   have e2 : (Op.bytesLess a b || decide (a = b)) = true := by rw [decide_eq_true he]; simp
   rw [if_neg k]
   refine NCall.call (h1) rfl rfl ?_
   refine NCall.call (h2) rfl rfl ?_
   refine ND.no (by assumption) ?_
   refine ND.yes (by simp [*]) ?_
   exact NRet.mk [] rfl ⟨.refl _, rfl⟩
def cmpIt (a b : Item) : Int := orI [cmpS a.key b.key, cmpS a.field b.field, cmpI a.kind b.kind, cmpI a.dot.node b.dot.node, cmpI a.dot.seq b.dot.seq, cmpI a.dot.at' b.dot.at', cmpS a.elem b.elem, cmpI a.n b.n]
theorem item_compare_walk (a b : Item) : ACalls Tryz.prog Nm.item_compare [itemA a, itemA b] [] (i64 (cmpIt a b)) [] := by
 refine ACalls_of tab (dr_snd tab mixed) Nm.item_compare_h rfl (by kernel_rfl) (Nat.le_of_ble_eq_true rfl) rfl ?_
 refine NP.mk (by kernel_rfl) ?_
 apply NDr.rd [0]
 ·intro fH TH
  exact ⟨rfl, rfl⟩
 apply NDr.rd [0]
 ·intro fH TH
  exact ⟨rfl, rfl⟩
 apply NDr.rd [1]
 ·intro fH TH
  exact ⟨rfl, rfl⟩
 apply NDr.rd [1]
 ·intro fH TH
  exact ⟨rfl, rfl⟩
 apply NDr.pure
 ·refine NCall.call (compareS_walk a.key b.key) rfl rfl ?_
  exact ⟨rfl, rfl⟩
 apply NDr.rd [0]
 ·intro fH TH
  exact ⟨rfl, rfl⟩
 apply NDr.rd [0]
 ·intro fH TH
  exact ⟨rfl, rfl⟩
 apply NDr.rd [1]
 ·intro fH TH
  exact ⟨rfl, rfl⟩
 apply NDr.rd [1]
 ·intro fH TH
  exact ⟨rfl, rfl⟩
 apply NDr.pure
 ·refine NCall.call (compareS_walk a.field b.field) rfl rfl ?_
  exact ⟨rfl, rfl⟩
 apply NDr.rd [0]
 ·intro fH TH
  exact ⟨rfl, rfl⟩
 apply NDr.rd [0]
 ·intro fH TH
  exact ⟨rfl, rfl⟩
 apply NDr.rd [1]
 ·intro fH TH
  exact ⟨rfl, rfl⟩
 apply NDr.rd [1]
 ·intro fH TH
  exact ⟨rfl, rfl⟩
 apply NDr.pure
 ·refine NCall.call (compare_walk a.kind b.kind) rfl rfl ?_
  exact ⟨rfl, rfl⟩
 apply NDr.rd [0]
 ·intro fH TH
  exact ⟨rfl, rfl⟩
 apply NDr.rd [0]
 ·intro fH TH
  exact ⟨rfl, rfl⟩
 apply NDr.rd [0]
 ·intro fH TH
  exact ⟨rfl, rfl⟩
 apply NDr.rd [1]
 ·intro fH TH
  exact ⟨rfl, rfl⟩
 apply NDr.rd [1]
 ·intro fH TH
  exact ⟨rfl, rfl⟩
 apply NDr.rd [1]
 ·intro fH TH
  exact ⟨rfl, rfl⟩
 apply NDr.pure
 ·refine NCall.call (compare_walk a.dot.node b.dot.node) rfl rfl ?_
  exact ⟨rfl, rfl⟩
 apply NDr.rd [0]
 ·intro fH TH
  exact ⟨rfl, rfl⟩
 apply NDr.rd [0]
 ·intro fH TH
  exact ⟨rfl, rfl⟩
 apply NDr.rd [0]
 ·intro fH TH
  exact ⟨rfl, rfl⟩
 apply NDr.rd [1]
 ·intro fH TH
  exact ⟨rfl, rfl⟩
 apply NDr.rd [1]
 ·intro fH TH
  exact ⟨rfl, rfl⟩
 apply NDr.rd [1]
 ·intro fH TH
  exact ⟨rfl, rfl⟩
 apply NDr.pure
 ·refine NCall.call (compare_walk a.dot.seq b.dot.seq) rfl rfl ?_
  exact ⟨rfl, rfl⟩
 apply NDr.rd [0]
 ·intro fH TH
  exact ⟨rfl, rfl⟩
 apply NDr.rd [0]
 ·intro fH TH
  exact ⟨rfl, rfl⟩
 apply NDr.rd [0]
 ·intro fH TH
  exact ⟨rfl, rfl⟩
 apply NDr.rd [1]
 ·intro fH TH
  exact ⟨rfl, rfl⟩
 apply NDr.rd [1]
 ·intro fH TH
  exact ⟨rfl, rfl⟩
 apply NDr.rd [1]
 ·intro fH TH
  exact ⟨rfl, rfl⟩
 apply NDr.pure
 ·refine NCall.call (compare_walk a.dot.at' b.dot.at') rfl rfl ?_
  exact ⟨rfl, rfl⟩
 apply NDr.rd [0]
 ·intro fH TH
  exact ⟨rfl, rfl⟩
 apply NDr.rd [0]
 ·intro fH TH
  exact ⟨rfl, rfl⟩
 apply NDr.rd [1]
 ·intro fH TH
  exact ⟨rfl, rfl⟩
 apply NDr.rd [1]
 ·intro fH TH
  exact ⟨rfl, rfl⟩
 apply NDr.pure
 ·refine NCall.call (compareS_walk a.elem b.elem) rfl rfl ?_
  exact ⟨rfl, rfl⟩
 apply NDr.rd [0]
 ·intro fH TH
  exact ⟨rfl, rfl⟩
 apply NDr.rd [0]
 ·intro fH TH
  exact ⟨rfl, rfl⟩
 apply NDr.rd [1]
 ·intro fH TH
  exact ⟨rfl, rfl⟩
 apply NDr.rd [1]
 ·intro fH TH
  exact ⟨rfl, rfl⟩
 apply NDr.pure
 ·refine NCall.call (compare64_walk a.n b.n) rfl rfl ?_
  exact ⟨rfl, rfl⟩
 refine NDr.w _ ?_
 apply NDr.pure
 ·refine NCall.call (or_walk [cmpS a.key b.key, cmpS a.field b.field, cmpI a.kind b.kind, cmpI a.dot.node b.dot.node, cmpI a.dot.seq b.dot.seq, cmpI a.dot.at' b.dot.at', cmpS a.elem b.elem, cmpI a.n b.n] (by simp)) rfl rfl ?_
  exact ⟨rfl, rfl⟩
 refine NDr.w _ ?_
 refine NP.mk (by kernel_rfl) ?_
 exact NRet.mk [] rfl ⟨.refl _, rfl⟩
theorem orI_lt (c : Int) (r : List Int) : orI (c :: r) < 0 ↔ c < 0 ∨ c = 0 ∧ orI r < 0 := by
 rw [orI_cons]
 split <;> omega
theorem cmpI_lt (a b : Int) : cmpI a b < 0 ↔ ltZ a b := by
 unfold cmpI ltZ
 split
 ·omega
 ·split <;> omega
theorem cmpI_eq (a b : Int) : cmpI a b = 0 ↔ a = b := by
 unfold cmpI
 split
 ·omega
 ·split <;> omega
theorem cmpS_lt (a b : List UInt8) : cmpS a b < 0 ↔ ltS a b := by
 unfold cmpS
 by_cases h : ltS a b
 ·simp [h]
 ·by_cases k : ltS b a <;> simp [h, k]
theorem cmpS_eq (a b : List UInt8) : cmpS a b = 0 ↔ a = b := by
 unfold cmpS
 by_cases h : ltS a b
 ·rw [if_pos h]
  exact ⟨fun h => by omega, fun e => by rw [e] at h; exact absurd h (ltS_irrefl b)⟩
 ·rw [if_neg h]
  by_cases k : ltS b a
  ·rw [if_pos k]
   exact ⟨fun h => by omega, fun e => by rw [e] at k; exact absurd k (ltS_irrefl b)⟩
  ·rw [if_neg k]
   refine ⟨fun _ => ?_, fun _ => rfl⟩
   rcases ltS_tri a b with h' | h' | h'
   ·exact absurd h' h
   ·exact h'
   ·exact absurd h' k
theorem cmpIt_lt (a b : Item) : cmpIt a b < 0 ↔ ILt a b := by
 unfold cmpIt
 simp only [orI_lt, cmpI_lt, cmpI_eq, cmpS_lt, cmpS_eq]
 unfold ILt lexR ltN
 simp [orI]
end Go.Bv
namespace Go.Bv
open Go Go.Proofs
theorem NG.map0N {α : Type} {f : α → AV} {l : List α} {j : Nat} {next : AV → Prop} (h : j < l.length) (hn : next (f l[j])) : NG (l.map f) (0 + Int.toNat (j : Int)) next := NG.mapE (Nat.zero_add j) h hn
end Go.Bv
namespace Go.Bv
open Go Go.Proofs
def without (l : List Item) (D : List Dot) : List Item := l.filter fun x => decide (x.dot ∉ D)
def madeL (n s : Int) (e : Eff) : List Item := if e.kind = 0 then [] else [made n s e]
def rawE (n s : Int) (l : List Item) (e : Eff) : List Item := without l e.drops ++ madeL n s e
def rawL (n s : Int) (l : List Item) (es : List Eff) : List Item := es.foldl (rawE n s) l
def doE (n s : Int) (l : List Item) (e : Eff) : List Item := norm (rawE n s l e)
def doL (n s : Int) (l : List Item) (es : List Eff) : List Item := es.foldl (doE n s) l
theorem without_norm {l m : List Item} (h : norm l = norm m) (D : List Dot) : norm (without l D) = norm (without m D) := norm_filter h fun d => decide (d ∉ D)
theorem rawE_norm {n s : Int} {l m : List Item} (h : norm l = norm m) (e : Eff) : norm (rawE n s l e) = norm (rawE n s m e) := norm_app (without_norm h _) _
theorem rawL_norm {n s : Int} : ∀ (es : List Eff) {l m : List Item}, norm l = norm m → norm (rawL n s l es) = norm (rawL n s m es)
 | [], _, _, h => h
 | e :: es, _, _, h => rawL_norm es (rawE_norm h e)
theorem doL_norm {n s : Int} : ∀ (es : List Eff) (l : List Item), norm (doL n s l es) = norm (rawL n s l es)
 | [], _ => rfl
 | e :: es, l => (doL_norm es _).trans (rawL_norm es (norm_idem _))
theorem doL_raw {n s : Int} {es : List Eff} (h : es ≠ []) (l : List Item) : doL n s l es = norm (rawL n s l es) := by
 obtain ⟨es, e, rfl⟩ : ∃ es' e, es = es' ++ [e] := ⟨_, _, (List.dropLast_concat_getLast h).symm⟩
 unfold doL rawL
 rw [List.foldl_append, List.foldl_append]
 show doE n s (doL n s l es) e = norm (rawE n s (rawL n s l es) e)
 exact rawE_norm (doL_norm es l) e
/-- An item that is made, and not taken away later. -/
def MadeBy (n s : Int) : List Eff → Item → Prop
 | [], _ => False
 | e :: es, x => (e.kind ≠ 0 ∧ x = made n s e ∧ ∀ e' ∈ es, x.dot ∉ e'.drops) ∨ MadeBy n s es x
theorem mem_without {l : List Item} {D : List Dot} {x : Item} : x ∈ without l D ↔ x ∈ l ∧ x.dot ∉ D := by
 unfold without; rw [List.mem_filter, decide_eq_true_eq]
theorem mem_madeL {n s : Int} {e : Eff} {x : Item} : x ∈ madeL n s e ↔ e.kind ≠ 0 ∧ x = made n s e := by
 unfold madeL
 split
 ·rename_i h; simp [h]
 ·rename_i h; simp [h]
theorem mem_rawL {n s : Int} : ∀ (es : List Eff) (l : List Item) (x : Item), x ∈ rawL n s l es ↔ (x ∈ l ∧ ∀ e ∈ es, x.dot ∉ e.drops) ∨ MadeBy n s es x
 | [], l, x => by simp [rawL, MadeBy]
 | e :: es, l, x => by
  show x ∈ rawL n s (rawE n s l e) es ↔ _
  rw [mem_rawL es, rawE, List.mem_append, mem_without, mem_madeL, MadeBy]
  simp only [List.mem_cons, forall_eq_or_imp]
  constructor
  ·rintro (⟨⟨h1, h2⟩ | ⟨h1, h2⟩, h3⟩ | h)
   ·exact .inl ⟨h1, h2, h3⟩
   ·exact .inr (.inl ⟨h1, h2, h3⟩)
   ·exact .inr (.inr h)
  ·rintro (⟨h1, h2, h3⟩ | ⟨h1, h2, h3⟩ | h)
   ·exact .inl ⟨.inl ⟨h1, h2⟩, h3⟩
   ·exact .inl ⟨.inr ⟨h1, h2⟩, h3⟩
   ·exact .inr h
theorem madeBy_ex {n s : Int} : ∀ {es : List Eff} {x : Item}, MadeBy n s es x → ∃ e ∈ es, e.kind ≠ 0 ∧ x = made n s e
 | e :: es, x, h => by
  rcases h with ⟨h1, h2, _⟩ | h
  ·exact ⟨e, List.mem_cons_self .., h1, h2⟩
  ·obtain ⟨e', h1, h2⟩ := madeBy_ex h
   exact ⟨e', List.mem_cons_of_mem _ h1, h2⟩
theorem doL_len {n s : Int} : ∀ (es : List Eff) (l : List Item), (doL n s l es).length ≤ l.length + es.length
 | [], _ => Nat.le_refl _
 | e :: es, l => by
  have h := doL_len (n := n) (s := s) es (doE n s l e)
  have h1 : (doE n s l e).length ≤ l.length + 1 := by
   unfold doE norm
   refine Nat.le_trans (nubF_sub _ _).length_le ?_
   rw [(isort_perm _).length_eq]
   unfold rawE madeL without
   rw [List.length_append]
   have := List.length_filter_le (fun x : Item => decide (x.dot ∉ e.drops)) l
   split <;> simp only [List.length_nil, List.length_cons] <;> omega
  show (doL n s (doE n s l e) es).length ≤ _
  rw [List.length_cons]; omega
def underI (l : List Item) (p : List UInt8 → Bool) : List Item := l.filter fun x => p x.key
/-- The numbers of effects differ. -/
def AtsDiffer (l : List Eff) : Prop := l.Pairwise fun a b => a.at' < b.at'
theorem ats_of {n s : Int} {l : List Eff} (h : effsOk n s l = true) : AtsDiffer l := by
 unfold effsOk at h
 rw [Bool.and_eq_true] at h
 have ht : ∀ a b c : Eff, decide (a.at' < b.at') = true → decide (b.at' < c.at') = true → decide (a.at' < c.at') = true := fun a b c h1 h2 => by
  simp only [decide_eq_true_eq] at *; omega
 exact ((adj_pw ht l).1 h.2).imp fun h => of_decide_eq_true h
end Go.Bv
namespace Go.Bv
open Go Go.Proofs
end Go.Bv
namespace Go.Bv
set_option linter.unusedSimpArgs false
set_option linter.unusedVariables false
set_option maxHeartbeats 4000000
set_option maxRecDepth 20000
open Go Go.Proofs
theorem begins8_walk (s p : List UInt8) (hs : s.length ≤ 2 ^ 47) : ACalls Tryz.prog Nm.ref08_Begins [.str s, .str p] [] (.bool (begins s p)) [] := by
 refine ACalls_of tab (dr_snd tab mixed) Nm.ref08_Begins_h rfl (by kernel_rfl) (Nat.le_of_ble_eq_true rfl) rfl ?_
 unfold begins
 by_cases h1 : p.length ≤ s.length
 ·refine ND.no (by omega) ?_
  refine NLoop.mk [] [0, 1, 5] (fun m vs H => ∃ i, i ≤ p.length ∧ m = p.length - i ∧ s.take i = p.take i ∧ H = [] ∧ vs = [.str s, .str p, i64 i]) rfl ?_ ?_
  ·exact Canon.mk [] rfl ⟨p.length, 0, Nat.zero_le _, rfl, rfl, rfl, rfl⟩
  ·rintro m vs H ⟨i, hi, rfl, ht, rfl, rfl⟩
   by_cases hil : i < p.length
   ·have his : i < s.length := by omega
    by_cases he : s[i] = p[i]
    ·refine ND.yes (by omega) ?_
     refine NP.mk (by kernel_rfl) ?_
     refine NDr.w _ ?_
     refine NDr.w _ ?_
     apply NDr.pure
     ·refine NP.mk (by omega) ?_
      exact ⟨rfl, rfl⟩
     refine NDr.w _ ?_
     refine NDr.w _ ?_
     apply NDr.pure
     ·refine NP.mk (by omega) ?_
      exact ⟨rfl, rfl⟩
     apply NDr.pure
     ·exact NB.det'
     refine NP.mk (by kernel_rfl) ?_
     refine NB.no (by simp [*]) ?_
     refine NW.w ?_
     exact Canon.mk [] rfl ⟨p.length - (i + 1), by omega, i + 1, by omega, rfl, take_eq_next ht his hil he, rfl, rfl⟩
    ·rw [decide_eq_false fun h => he (by
      have := congrArg (fun l => l[i]?) h
      simp only [List.getElem?_take, hil, if_true, List.getElem?_eq_getElem his, List.getElem?_eq_getElem hil] at this
      exact Option.some.inj this)]
     have he' : ¬ ((s[i].toNat : Int) = p[i].toNat) := fun h => he (UInt8.toNat_inj.1 (by omega))
     refine ND.yes (by omega) ?_
     refine NP.mk (by kernel_rfl) ?_
     refine NDr.w _ ?_
     refine NDr.w _ ?_
     apply NDr.pure
     ·refine NP.mk (by omega) ?_
      exact ⟨rfl, rfl⟩
     refine NDr.w _ ?_
     refine NDr.w _ ?_
     apply NDr.pure
     ·refine NP.mk (by omega) ?_
      exact ⟨rfl, rfl⟩
     apply NDr.pure
     ·exact NB.det'
     refine NP.mk (by kernel_rfl) ?_
     refine NB.yes (by simp [*]) ?_
     exact NRet.mk [] rfl ⟨.refl _, rfl⟩
   ·have : i = p.length := by omega
    subst this
    rw [decide_eq_true (by rw [ht, List.take_length])]
    refine ND.no (by omega) ?_
    exact NRet.mk [] rfl ⟨.refl _, rfl⟩
 ·rw [decide_eq_false (fun h => h1 (by rw [← h, List.length_take]; omega))]
  refine ND.yes (by omega) ?_
  exact NRet.mk [] rfl ⟨.refl _, rfl⟩
theorem covers8_walk (z : List (List UInt8)) (k : List UInt8) (hz : z.length ≤ 2 ^ 40) (hk : k.length ≤ 2 ^ 47) : ACalls Tryz.prog Nm.ref08_Covers [strsA z, .str k] [] (.bool (z.any (begins k))) [] := by
 refine ACalls_of tab (dr_snd tab mixed) Nm.ref08_Covers_h rfl (by kernel_rfl) (Nat.le_of_ble_eq_true rfl) rfl ?_
 refine NLoop.mk [] [0, 1, 5] (fun m vs H => ∃ i, i ≤ z.length ∧ m = z.length - i ∧ (∀ x ∈ z.take i, begins k x = false) ∧ H = [] ∧ vs = [strsA z, .str k, i64 i]) rfl ?_ ?_
 ·exact Canon.mk [] rfl ⟨z.length, 0, Nat.zero_le _, rfl, by simp, rfl, rfl⟩
 ·rintro m vs H ⟨i, hi, rfl, ht, rfl, rfl⟩
  by_cases hil : i < z.length
  ·have hb := begins8_walk k z[i] hk
   cases hp : begins k z[i] with
   | true =>
    rw [hp] at hb
    rw [List.any_eq_true.2 ⟨_, List.getElem_mem hil, hp⟩]
    refine ND.yes (by (simp only [zLm, zLa, zLr, zLc, zLn, zLt, zLd]; omega)) ?_
    refine NP.mk (by omega) ?_
    refine NG.mapN (by omega) ?_
    refine NCall.call (hb) rfl rfl ?_
    exact NRet.mk [] rfl ⟨.refl _, rfl⟩
   | false =>
    rw [hp] at hb
    refine ND.yes (by (simp only [zLm, zLa, zLr, zLc, zLn, zLt, zLd]; omega)) ?_
    refine NP.mk (by omega) ?_
    refine NG.mapN (by omega) ?_
    refine NCall.call (hb) rfl rfl ?_
    refine NW.w ?_
    exact Canon.mk [] rfl ⟨z.length - (i + 1), by omega, i + 1, by omega, rfl, (find_step hil ht).2 hp, rfl, rfl⟩
  ·have : i = z.length := by omega
   subst this
   rw [List.take_length] at ht
   rw [List.any_eq_false.2 fun x hx => by rw [ht x hx]; simp]
   refine ND.no (by (simp only [zLm, zLa, zLr, zLc, zLn, zLt, zLd]; omega)) ?_
   exact NRet.mk [] rfl ⟨.refl _, rfl⟩
theorem short8_walk (l : List (List UInt8)) (hl : l.length ≤ 2 ^ 47) (hx : ∀ e ∈ l, e.length ≤ reachBytes) : ACalls Tryz.prog Nm.ref08_Short [strsA l] [] (.bool (decide (l.length ≤ 60) && l.all fun e => decide (e.length ≤ 200))) [] := by
 refine ACalls_of tab (dr_snd tab mixed) Nm.ref08_Short_h rfl (by kernel_rfl) (Nat.le_of_ble_eq_true rfl) rfl ?_
 by_cases h : l.length ≤ 60
 ·rw [decide_eq_true h, Bool.true_and]
  refine ND.no (by (simp only [zLm, zLa, zLr, zLc, zLn, zLt, zLd]; omega)) ?_
  refine NLoop.mk [] [0, 3] (fun m vs H => ∃ i, i ≤ l.length ∧ m = l.length - i ∧ (∀ x ∈ l.take i, decide (x.length ≤ 200) = true) ∧ H = [] ∧ vs = [strsA l, i64 i]) rfl ?_ ?_
  ·exact Canon.mk [] rfl ⟨l.length, 0, Nat.zero_le _, rfl, by simp, rfl, rfl⟩
  ·rintro m vs H ⟨i, hi, rfl, ht, rfl, rfl⟩
   by_cases hil : i < l.length
   ·obtain ⟨f1, f2⟩ := all_step (p := fun x : List UInt8 => decide (x.length ≤ 200)) hil ht
    have hr := reach_lt (hx _ (List.getElem_mem hil))
    by_cases hp : l[i].length ≤ 200
    ·refine ND.yes (by (simp only [zLm, zLa, zLr, zLc, zLn, zLt, zLd]; omega)) ?_
     refine NP.mk (by omega) ?_
     refine NG.mapN (by omega) ?_
     refine ND.no (by omega) ?_
     refine NW.w ?_
     exact Canon.mk [] rfl ⟨l.length - (i + 1), by omega, i + 1, by omega, rfl, f2 (decide_eq_true hp), rfl, rfl⟩
    ·rw [f1 (decide_eq_false hp)]
     refine ND.yes (by (simp only [zLm, zLa, zLr, zLc, zLn, zLt, zLd]; omega)) ?_
     refine NP.mk (by omega) ?_
     refine NG.mapN (by omega) ?_
     refine ND.yes (by omega) ?_
     exact NRet.mk [] rfl ⟨.refl _, rfl⟩
   ·have : i = l.length := by omega
    subst this
    rw [all_end ht]
    refine ND.no (by (simp only [zLm, zLa, zLr, zLc, zLn, zLt, zLd]; omega)) ?_
    exact NRet.mk [] rfl ⟨.refl _, rfl⟩
 ·rw [decide_eq_false h, Bool.false_and]
  refine ND.yes (by (simp only [zLm, zLa, zLr, zLc, zLn, zLt, zLd]; omega)) ?_
  exact NRet.mk [] rfl ⟨.refl _, rfl⟩
end Go.Bv
namespace Go.Bv
set_option linter.unusedSimpArgs false
set_option linter.unusedVariables false
set_option maxHeartbeats 4000000
set_option maxRecDepth 20000
open Go Go.Proofs
theorem is9_walk (D : List Dot) (d : Dot) (hD : D.length ≤ 2 ^ 40) : ACalls Tryz.prog Nm.ref09_Is [dotsA D, dotA d] [] (.bool (decide (d ∈ D))) [] := by
 refine ACalls_of tab (dr_snd tab mixed) Nm.ref09_Is_h rfl (by kernel_rfl) (Nat.le_of_ble_eq_true rfl) rfl ?_
 skip
 refine NLoop.mk [] [0, 3, 5] (fun m vs H => ∃ i, i ≤ D.length ∧ m = D.length - i ∧ (∀ x ∈ D.take i, decide (d = x) = false) ∧ H = [.row .box (.agg 3) [dotA d]] ∧ vs = [dotsA D, .ptr 0 0 0, i64 i]) rfl ?_ ?_
 ·exact Canon.mk [0] rfl ⟨D.length, 0, Nat.zero_le _, rfl, by simp, rfl, rfl⟩
 ·rintro m vs H ⟨i, hi, rfl, ht, rfl, rfl⟩
  by_cases hil : i < D.length
  ·obtain ⟨f1, f2⟩ := find_step hil ht
   by_cases hp : d = D[i]
   ·have e1 : d.node = D[i].node := by rw [← hp]
    have e2 : d.seq = D[i].seq := by rw [← hp]
    have e3 : d.at' = D[i].at' := by rw [← hp]
    rw [decide_eq_true (show d ∈ D from by rw [hp]; exact List.getElem_mem hil)]
    refine ND.yes (by (simp only [zLm, zLa, zLr, zLc, zLn, zLt, zLd]; omega)) ?_
    refine NP.mk (by kernel_rfl) ?_
    refine NDr.w _ ?_
    refine NDr.w _ ?_
    apply NDr.pure
    ·refine NP.mk (by omega) ?_
     refine NG.mapN (by omega) ?_
     exact ⟨rfl, rfl⟩
    refine NDr.w _ ?_
    apply NDr.rd [0]
    ·intro fH TH
     exact ⟨rfl, rfl⟩
    apply NDr.pure
    ·refine ND.yes (by simp [*]) ?_
     exact ⟨rfl, rfl⟩
    refine NP.mk (by kernel_rfl) ?_
    exact NRet.mk [] rfl ⟨.refl _, rfl⟩
   ·have hne : ¬ (d.node = D[i].node ∧ d.seq = D[i].seq ∧ d.at' = D[i].at') := fun h => hp (Dot.ext h.1 h.2.1 h.2.2)
    refine ND.yes (by (simp only [zLm, zLa, zLr, zLc, zLn, zLt, zLd]; omega)) ?_
    refine NP.mk (by kernel_rfl) ?_
    refine NDr.w _ ?_
    refine NDr.w _ ?_
    apply NDr.pure
    ·refine NP.mk (by omega) ?_
     refine NG.mapN (by omega) ?_
     exact ⟨rfl, rfl⟩
    refine NDr.w _ ?_
    apply NDr.rd [0]
    ·intro fH TH
     exact ⟨rfl, rfl⟩
    apply NDr.pure
    ·exact NB.det
    refine NP.mk (by kernel_rfl) ?_
    refine NB.mk (fun hk3 => ?_) (fun hk3 => ?_)
    ·refine NRet.boolE (b := true) ?_ (NRet.mk [] rfl ⟨.refl _, rfl⟩)
     grind
    refine NW.w ?_
    exact Canon.mk [0] rfl ⟨D.length - (i + 1), by omega, i + 1, by omega, rfl, f2 (decide_eq_false hp), rfl, rfl⟩
  ·have : i = D.length := by omega
   subst this
   rw [List.take_length] at ht
   rw [decide_eq_false fun h => by have := ht d h; simp at this]
   refine ND.no (by (simp only [zLm, zLa, zLr, zLc, zLn, zLt, zLd]; omega)) ?_
   exact NRet.mk [] rfl ⟨.refl _, rfl⟩
theorem same9_walk (a b : List Item) (ha : a.length ≤ 2 ^ 38) : ACalls Tryz.prog Nm.ref09_Same [itemsA a, itemsA b] [] (.bool (decide (a = b))) [] := by
 refine ACalls_of tab (dr_snd tab mixed) Nm.ref09_Same_h rfl (by kernel_rfl) (Nat.le_of_ble_eq_true rfl) rfl ?_
 by_cases hl : a.length = b.length
 ·refine ND.yes (by (simp only [zLm, zLa, zLr, zLc, zLn, zLt, zLd]; omega)) ?_
  refine NLoop.mk [] [0, 1, 5] (fun m vs H => ∃ i, i ≤ a.length ∧ m = a.length - i ∧ a.take i = b.take i ∧ H = [] ∧ vs = [itemsA a, itemsA b, i64 i]) rfl ?_ ?_
  ·exact Canon.mk [] rfl ⟨a.length, 0, Nat.zero_le _, rfl, rfl, rfl, rfl⟩
  ·rintro m vs H ⟨i, hi, rfl, ht, rfl, rfl⟩
   by_cases hil : i < a.length
   ·have hib : i < b.length := by omega
    refine ND.yes (by (simp only [zLm, zLa, zLr, zLc, zLn, zLt, zLd]; omega)) ?_
    refine NP.mk (by kernel_rfl) ?_
    refine NDr.w _ ?_
    refine NDr.w _ ?_
    apply NDr.pure
    ·refine NP.mk (by omega) ?_
     refine NG.mapN (by omega) ?_
     exact ⟨rfl, rfl⟩
    refine NDr.w _ ?_
    refine NDr.w _ ?_
    refine NDr.w _ ?_
    apply NDr.pure
    ·refine NP.mk (by omega) ?_
     refine NG.mapN (by omega) ?_
     exact ⟨rfl, rfl⟩
    refine NDr.w _ ?_
    apply NDr.pure
    ·exact NB.det'
    refine NP.mk (by kernel_rfl) ?_
    refine NB.mk (fun hk3 => ?_) (fun hk3 => ?_)
    ·refine NRet.boolE (b := false) ?_ (NRet.mk [] rfl ⟨.refl _, rfl⟩)
     grind
    refine NW.w ?_
    exact Canon.mk [] rfl ⟨a.length - (i + 1), by omega, i + 1, by omega, rfl, take_eq_next ht hil hib (by grind [Item.ext_iff, Dot.ext_iff]), rfl, rfl⟩
   ·have : i = a.length := by omega
    subst this
    rw [decide_eq_true (take_eq_end hl ht)]
    refine ND.no (by (simp only [zLm, zLa, zLr, zLc, zLn, zLt, zLd]; omega)) ?_
    exact NRet.mk [] rfl ⟨.refl _, rfl⟩
 ·rw [decide_eq_false fun e => hl (by rw [e])]
  refine ND.no (by (simp only [zLm, zLa, zLr, zLc, zLn, zLt, zLd]; omega)) ?_
  exact NRet.mk [] rfl ⟨.refl _, rfl⟩
def shortI (x : Item) : Bool := decide (x.key.length ≤ 300 ∧ x.field.length ≤ 300 ∧ x.elem.length ≤ 300)
def shortIs (l : List Item) : Bool := decide (l.length ≤ 60) && l.all shortI
theorem short9_walk (l : List Item) (hl : l.length ≤ 2 ^ 47) (hx : ∀ e ∈ l, okItem e) : ACalls Tryz.prog Nm.ref09_Short [itemsA l] [] (.bool (shortIs l)) [] := by
 refine ACalls_of tab (dr_snd tab mixed) Nm.ref09_Short_h rfl (by kernel_rfl) (Nat.le_of_ble_eq_true rfl) rfl ?_
 unfold shortIs
 by_cases h : l.length ≤ 60
 ·rw [decide_eq_true h, Bool.true_and]
  refine ND.no (by (simp only [zLm, zLa, zLr, zLc, zLn, zLt, zLd]; omega)) ?_
  refine NLoop.mk [] [0, 3] (fun m vs H => ∃ i, i ≤ l.length ∧ m = l.length - i ∧ (∀ x ∈ l.take i, shortI x = true) ∧ H = [] ∧ vs = [itemsA l, i64 i]) rfl ?_ ?_
  ·exact Canon.mk [] rfl ⟨l.length, 0, Nat.zero_le _, rfl, by simp, rfl, rfl⟩
  ·rintro m vs H ⟨i, hi, rfl, ht, rfl, rfl⟩
   by_cases hil : i < l.length
   ·obtain ⟨f1, f2⟩ := all_step hil ht
    obtain ⟨x1, x2, _, x3, _⟩ := hx _ (List.getElem_mem hil)
    have x1 := reach_lt x1
    have x2 := reach_lt x2
    have x3 := reach_lt x3
    cases hp : shortI l[i] with
    | true =>
     have hp' := hp
     unfold shortI at hp'
     simp only [decide_eq_true_eq] at hp'
     refine ND.yes (by (simp only [zLm, zLa, zLr, zLc, zLn, zLt, zLd]; omega)) ?_
     refine NP.mk (by omega) ?_
     refine NG.mapN (by omega) ?_
     refine ND.no (by omega) ?_
     refine NP.mk (by omega) ?_
     refine NG.mapN (by omega) ?_
     refine ND.no (by omega) ?_
     refine NP.mk (by omega) ?_
     refine NG.mapN (by omega) ?_
     refine ND.no (by omega) ?_
     refine NW.w ?_
     exact Canon.mk [] rfl ⟨l.length - (i + 1), by omega, i + 1, by omega, rfl, f2 hp, rfl, rfl⟩
    | false =>
     rw [f1 hp]
     have hp' := hp
     unfold shortI at hp'
     simp only [decide_eq_false_iff_not] at hp'
     refine ND.yes (by (simp only [zLm, zLa, zLr, zLc, zLn, zLt, zLd]; omega)) ?_
     refine NP.mk (by omega) ?_
     refine NG.mapN (by omega) ?_
     refine NB.dec (fun hk2 => ?_) (fun hk2 => ?_)
     ·exact NRet.mk [] rfl ⟨.refl _, rfl⟩
     refine NP.mk (by omega) ?_
     refine NG.mapN (by omega) ?_
     refine NB.dec (fun hk3 => ?_) (fun hk3 => ?_)
     ·exact NRet.mk [] rfl ⟨.refl _, rfl⟩
     refine NP.mk (by omega) ?_
     refine NG.mapN (by omega) ?_
     refine ND.yes (by omega) ?_
     exact NRet.mk [] rfl ⟨.refl _, rfl⟩
   ·have : i = l.length := by omega
    subst this
    rw [all_end ht]
    refine ND.no (by (simp only [zLm, zLa, zLr, zLc, zLn, zLt, zLd]; omega)) ?_
    exact NRet.mk [] rfl ⟨.refl _, rfl⟩
 ·rw [decide_eq_false h, Bool.false_and]
  refine ND.yes (by (simp only [zLm, zLa, zLr, zLc, zLn, zLt, zLd]; omega)) ?_
  exact NRet.mk [] rfl ⟨.refl _, rfl⟩
theorem under9_walk (l : List Item) (z : List (List UInt8)) (hl : l.length ≤ 2 ^ 38) (hz : z.length ≤ 2 ^ 40) (hx : ∀ e ∈ l, smItem e) : ACalls Tryz.prog Nm.ref09_Under [itemsA l, strsA z] [] (itemsA (underI l fun k => z.any (begins k))) [] := by
 refine ACalls_of tab (dr_snd tab mixed) Nm.ref09_Under_h rfl (by kernel_rfl) (Nat.le_of_ble_eq_true rfl) rfl ?_
 refine NLoop.mk [(5, .agg 8)] [0, 1, 5, 6] (fun m vs H => ∃ i, i ≤ l.length ∧ m = l.length - i ∧ H = [.row .vrow (.agg 8) ((underI (l.take i) fun k => z.any (begins k)).map itemA)] ∧ vs = [itemsA l, strsA z, .own 0 0 ((underI (l.take i) fun k => z.any (begins k)).map itemA).length, i64 i]) rfl ?_ ?_
 ·exact Canon.mk [0] rfl ⟨l.length, 0, Nat.zero_le _, rfl, rfl, rfl⟩
 ·rintro m vs H ⟨i, hi, rfl, rfl, rfl⟩
  by_cases hil : i < l.length
  ·have hc := covers8_walk z l[i].key hz (by have := (hx _ (List.getElem_mem hil)).1; omega)
   have hft := filter_take (fun e : Item => z.any (begins e.key)) l hil
   have hfl : (underI (l.take i) fun k => z.any (begins k)).length ≤ 2 ^ 38 := by
    unfold underI
    refine Nat.le_trans (List.length_filter_le _ _) ?_
    rw [List.length_take]; omega
   cases hp : z.any (begins l[i].key) with
   | true =>
    rw [hp] at hc
    rw [hp, if_pos rfl] at hft
    refine ND.yes (by (simp only [zLm, zLa, zLr, zLc, zLn, zLt, zLd]; omega)) ?_
    refine NP.mk (by omega) ?_
    refine NG.mapN (by omega) ?_
    refine NCall.call (hc) rfl rfl ?_
    refine NP.mk (by omega) ?_
    refine NG.mapN (by omega) ?_
    refine NFz.own ?_
    refine NApp.endA rfl (by simp; omega) ?_
    refine NW.w ?_
    exact Canon.mk [1] rfl ⟨l.length - (i + 1), by omega, i + 1, by omega, rfl, by unfold underI; rw [hft, List.map_append]; rfl, by unfold underI; rw [hft, List.map_append]; rfl⟩
   | false =>
    rw [hp] at hc
    rw [hp, if_neg (by simp)] at hft
    refine ND.yes (by (simp only [zLm, zLa, zLr, zLc, zLn, zLt, zLd]; omega)) ?_
    refine NP.mk (by omega) ?_
    refine NG.mapN (by omega) ?_
    refine NCall.call (hc) rfl rfl ?_
    refine NW.w ?_
    exact Canon.mk [0] rfl ⟨l.length - (i + 1), by omega, i + 1, by omega, rfl, by unfold underI; rw [hft], by unfold underI; rw [hft]; rfl⟩
  ·have : i = l.length := by omega
   subst this
   rw [List.take_length]
   refine ND.no (by (simp only [zLm, zLa, zLr, zLc, zLn, zLt, zLd]; omega)) ?_
   exact NRet.mk [] rfl (NFrz.mk ((underI l fun k => z.any (begins k)).map itemA) (by simp) (by rw [List.drop_zero, List.take_of_length_le (by simp)]) ⟨.refl _, rfl⟩)
end Go.Bv
