/- Part of the lift: an abstract walk of the program's code, proved sound, and what it shows of this program. -/
import Derived.Test.YtjgmoglhbdgmpaaGreatPart9
import Derived.Test.YtjgmoglhbdgmpaaGreatPart8
import Derived.Sort.LotD4
namespace Go.Bv
set_option linter.unusedSimpArgs false
set_option linter.unusedVariables false
set_option maxHeartbeats 4000000
set_option maxRecDepth 20000
open Go Go.Proofs
def pA (p : Int × Int) : AV := .agg [i64 p.1, i64 p.2]
def prs (a b : Item) : List (Int × Int) := [(a.kind, b.kind), (a.dot.node, b.dot.node), (a.dot.seq, b.dot.seq), (a.dot.at', b.dot.at')]
theorem less9_walk (a b : Item) : ACalls Tryz.prog Nm.ref09_Less [itemA a, itemA b] [] (.bool (ltI a b)) [] := by
 refine ACalls_of tab (dr_snd tab mixed) Nm.ref09_Less_h rfl (by kernel_rfl) (Nat.le_of_ble_eq_true rfl) rfl ?_
 by_cases h1 : a.key = b.key
 ·by_cases h2 : a.field = b.field
  ·refine ND.yes (by omega) ?_
   refine ND.yes (by omega) ?_
   refine NLoop.mk [] [2, 3, 53, 54, 55] (fun m vs H => ∃ i, i ≤ 4 ∧ m = 4 - i ∧ (0 < i → a.kind = b.kind) ∧ (1 < i → a.dot.node = b.dot.node) ∧ (2 < i → a.dot.seq = b.dot.seq) ∧ (3 < i → a.dot.at' = b.dot.at') ∧ H = [.row .box (.agg 8) [itemA a], .row .box (.agg 8) [itemA b]] ∧
    vs = [.ptr 0 0 0, .ptr 1 0 0, .list (.agg 2) ((prs a b).map pA), i64 4, i64 i]) rfl ?_ ?_
   ·exact Canon.mk [0, 1] rfl ⟨_, 0, by omega, rfl, fun h => by omega, fun h => by omega, fun h => by omega, fun h => by omega, rfl, rfl⟩
   rintro m vs H ⟨i, hi, rfl, e1, e2, e3, e4, rfl, rfl⟩
   have hlt : ltI a b = decide (a.kind < b.kind ∨ a.kind = b.kind ∧ (a.dot.node < b.dot.node ∨ a.dot.node = b.dot.node ∧ (a.dot.seq < b.dot.seq ∨ a.dot.seq = b.dot.seq ∧ (a.dot.at' < b.dot.at' ∨ a.dot.at' = b.dot.at' ∧ (ltS a.elem b.elem ∨ a.elem = b.elem ∧ a.n < b.n))))) := by
    unfold ltI ILt lexR ltN ltZ
    rw [Bool.eq_iff_iff]
    simp [h1, h2, ltS_irrefl]
   rcases (by omega : i = 0 ∨ i = 1 ∨ i = 2 ∨ i = 3 ∨ i = 4) with rfl | rfl | rfl | rfl | rfl
   ·by_cases hd : a.kind = b.kind
    ·refine ND.yes (by omega) ?_
     refine NP.mk (by omega) ?_
     refine NG.mk _ rfl ?_
     refine NP.mk (by omega) ?_
     refine NP.mk (by omega) ?_
     refine ND.yes (by omega) ?_
     refine NW.w ?_
     exact Canon.mk [0, 1] rfl ⟨3, by omega, 1, by omega, rfl, fun _ => hd, fun h => by omega, fun h => by omega, fun h => by omega, rfl, rfl⟩
    ·rw [hlt, show decide (a.kind < b.kind ∨ a.kind = b.kind ∧ (a.dot.node < b.dot.node ∨ a.dot.node = b.dot.node ∧ (a.dot.seq < b.dot.seq ∨ a.dot.seq = b.dot.seq ∧ (a.dot.at' < b.dot.at' ∨ a.dot.at' = b.dot.at' ∧ (ltS a.elem b.elem ∨ a.elem = b.elem ∧ a.n < b.n))))) = decide (a.kind < b.kind) by rw [Bool.eq_iff_iff]; simp [hd]]
     refine ND.yes (by omega) ?_
     refine NP.mk (by omega) ?_
     refine NG.mk _ rfl ?_
     refine NP.mk (by omega) ?_
     refine NP.mk (by omega) ?_
     refine ND.no (by omega) ?_
     refine NP.mk (by omega) ?_
     refine NP.mk (by omega) ?_
     refine NB.dec (fun hk3 => ?_) (fun hk3 => ?_)
     ·refine NRet.boolE (b := true) ?_ (NRet.mk [] rfl ⟨.refl _, rfl⟩)
      (simp only [decide_eq_true_eq, decide_eq_false_iff_not, eq_comm (a := true), eq_comm (a := false)]; omega)
     refine NRet.boolE (b := false) ?_ (NRet.mk [] rfl ⟨.refl _, rfl⟩)
     (simp only [decide_eq_true_eq, decide_eq_false_iff_not, eq_comm (a := true), eq_comm (a := false)]; omega)
   ·have e1 := e1 (by omega)
    by_cases hd : a.dot.node = b.dot.node
    ·refine ND.yes (by omega) ?_
     refine NP.mk (by omega) ?_
     refine NG.mk _ rfl ?_
     refine NP.mk (by omega) ?_
     refine NP.mk (by omega) ?_
     refine ND.yes (by omega) ?_
     refine NW.w ?_
     exact Canon.mk [0, 1] rfl ⟨2, by omega, 2, by omega, rfl, fun _ => e1, fun _ => hd, fun h => by omega, fun h => by omega, rfl, rfl⟩
    ·rw [hlt, show decide (a.kind < b.kind ∨ a.kind = b.kind ∧ (a.dot.node < b.dot.node ∨ a.dot.node = b.dot.node ∧ (a.dot.seq < b.dot.seq ∨ a.dot.seq = b.dot.seq ∧ (a.dot.at' < b.dot.at' ∨ a.dot.at' = b.dot.at' ∧ (ltS a.elem b.elem ∨ a.elem = b.elem ∧ a.n < b.n))))) = decide (a.dot.node < b.dot.node) by rw [Bool.eq_iff_iff]; simp [hd, e1]]
     refine ND.yes (by omega) ?_
     refine NP.mk (by omega) ?_
     refine NG.mk _ rfl ?_
     refine NP.mk (by omega) ?_
     refine NP.mk (by omega) ?_
     refine ND.no (by omega) ?_
     refine NP.mk (by omega) ?_
     refine NP.mk (by omega) ?_
     refine NB.dec (fun hk3 => ?_) (fun hk3 => ?_)
     ·refine NRet.boolE (b := true) ?_ (NRet.mk [] rfl ⟨.refl _, rfl⟩)
      (simp only [decide_eq_true_eq, decide_eq_false_iff_not, eq_comm (a := true), eq_comm (a := false)]; omega)
     refine NRet.boolE (b := false) ?_ (NRet.mk [] rfl ⟨.refl _, rfl⟩)
     (simp only [decide_eq_true_eq, decide_eq_false_iff_not, eq_comm (a := true), eq_comm (a := false)]; omega)
   ·have e1 := e1 (by omega)
    have e2 := e2 (by omega)
    by_cases hd : a.dot.seq = b.dot.seq
    ·refine ND.yes (by omega) ?_
     refine NP.mk (by omega) ?_
     refine NG.mk _ rfl ?_
     refine NP.mk (by omega) ?_
     refine NP.mk (by omega) ?_
     refine ND.yes (by omega) ?_
     refine NW.w ?_
     exact Canon.mk [0, 1] rfl ⟨1, by omega, 3, by omega, rfl, fun _ => e1, fun _ => e2, fun _ => hd, fun h => by omega, rfl, rfl⟩
    ·rw [hlt, show decide (a.kind < b.kind ∨ a.kind = b.kind ∧ (a.dot.node < b.dot.node ∨ a.dot.node = b.dot.node ∧ (a.dot.seq < b.dot.seq ∨ a.dot.seq = b.dot.seq ∧ (a.dot.at' < b.dot.at' ∨ a.dot.at' = b.dot.at' ∧ (ltS a.elem b.elem ∨ a.elem = b.elem ∧ a.n < b.n))))) = decide (a.dot.seq < b.dot.seq) by rw [Bool.eq_iff_iff]; simp [hd, e1, e2]]
     refine ND.yes (by omega) ?_
     refine NP.mk (by omega) ?_
     refine NG.mk _ rfl ?_
     refine NP.mk (by omega) ?_
     refine NP.mk (by omega) ?_
     refine ND.no (by omega) ?_
     refine NP.mk (by omega) ?_
     refine NP.mk (by omega) ?_
     refine NB.dec (fun hk3 => ?_) (fun hk3 => ?_)
     ·refine NRet.boolE (b := true) ?_ (NRet.mk [] rfl ⟨.refl _, rfl⟩)
      (simp only [decide_eq_true_eq, decide_eq_false_iff_not, eq_comm (a := true), eq_comm (a := false)]; omega)
     refine NRet.boolE (b := false) ?_ (NRet.mk [] rfl ⟨.refl _, rfl⟩)
     (simp only [decide_eq_true_eq, decide_eq_false_iff_not, eq_comm (a := true), eq_comm (a := false)]; omega)
   ·have e1 := e1 (by omega)
    have e2 := e2 (by omega)
    have e3 := e3 (by omega)
    by_cases hd : a.dot.at' = b.dot.at'
    ·refine ND.yes (by omega) ?_
     refine NP.mk (by omega) ?_
     refine NG.mk _ rfl ?_
     refine NP.mk (by omega) ?_
     refine NP.mk (by omega) ?_
     refine ND.yes (by omega) ?_
     refine NW.w ?_
     exact Canon.mk [0, 1] rfl ⟨0, by omega, 4, by omega, rfl, fun _ => e1, fun _ => e2, fun _ => e3, fun _ => hd, rfl, rfl⟩
    ·rw [hlt, show decide (a.kind < b.kind ∨ a.kind = b.kind ∧ (a.dot.node < b.dot.node ∨ a.dot.node = b.dot.node ∧ (a.dot.seq < b.dot.seq ∨ a.dot.seq = b.dot.seq ∧ (a.dot.at' < b.dot.at' ∨ a.dot.at' = b.dot.at' ∧ (ltS a.elem b.elem ∨ a.elem = b.elem ∧ a.n < b.n))))) = decide (a.dot.at' < b.dot.at') by rw [Bool.eq_iff_iff]; simp [hd, e1, e2, e3]]
     refine ND.yes (by omega) ?_
     refine NP.mk (by omega) ?_
     refine NG.mk _ rfl ?_
     refine NP.mk (by omega) ?_
     refine NP.mk (by omega) ?_
     refine ND.no (by omega) ?_
     refine NP.mk (by omega) ?_
     refine NP.mk (by omega) ?_
     refine NB.dec (fun hk3 => ?_) (fun hk3 => ?_)
     ·refine NRet.boolE (b := true) ?_ (NRet.mk [] rfl ⟨.refl _, rfl⟩)
      (simp only [decide_eq_true_eq, decide_eq_false_iff_not, eq_comm (a := true), eq_comm (a := false)]; omega)
     refine NRet.boolE (b := false) ?_ (NRet.mk [] rfl ⟨.refl _, rfl⟩)
     (simp only [decide_eq_true_eq, decide_eq_false_iff_not, eq_comm (a := true), eq_comm (a := false)]; omega)
   ·have e1 := e1 (by omega)
    have e2 := e2 (by omega)
    have e3 := e3 (by omega)
    have e4 := e4 (by omega)
    rw [hlt, show decide (a.kind < b.kind ∨ a.kind = b.kind ∧ (a.dot.node < b.dot.node ∨ a.dot.node = b.dot.node ∧ (a.dot.seq < b.dot.seq ∨ a.dot.seq = b.dot.seq ∧ (a.dot.at' < b.dot.at' ∨ a.dot.at' = b.dot.at' ∧ (ltS a.elem b.elem ∨ a.elem = b.elem ∧ a.n < b.n))))) = decide (ltS a.elem b.elem ∨ a.elem = b.elem ∧ a.n < b.n) by rw [Bool.eq_iff_iff]; simp [e1, e2, e3, e4]]
    by_cases hd : a.elem = b.elem
    ·rw [show decide (ltS a.elem b.elem ∨ a.elem = b.elem ∧ a.n < b.n) = decide (a.n < b.n) by rw [Bool.eq_iff_iff]; simp [hd, ltS_irrefl]]
     refine ND.no (by omega) ?_
     refine ND.yes (by omega) ?_
     refine NB.dec (fun hk3 => ?_) (fun hk3 => ?_)
     ·refine NRet.boolE (b := true) ?_ (NRet.mk [] rfl ⟨.refl _, rfl⟩)
      (simp only [decide_eq_true_eq, decide_eq_false_iff_not, eq_comm (a := true), eq_comm (a := false)]; omega)
     refine NRet.boolE (b := false) ?_ (NRet.mk [] rfl ⟨.refl _, rfl⟩)
     (simp only [decide_eq_true_eq, decide_eq_false_iff_not, eq_comm (a := true), eq_comm (a := false)]; omega)
    ·rw [show decide (ltS a.elem b.elem ∨ a.elem = b.elem ∧ a.n < b.n) = decide (ltS a.elem b.elem) by rw [Bool.eq_iff_iff]; simp [hd], ← bytesLess_lt]
     refine ND.no (by omega) ?_
     refine ND.no (by omega) ?_
     refine NB.dec (fun hk3 => ?_) (fun hk3 => ?_)
     ·refine NRet.boolE (b := true) ?_ (NRet.mk [] rfl ⟨.refl _, rfl⟩)
      (simp only [decide_eq_true_eq, decide_eq_false_iff_not, eq_comm (a := true), eq_comm (a := false)]; omega)
     refine NRet.boolE (b := false) ?_ (NRet.mk [] rfl ⟨.refl _, rfl⟩)
     (simp [*]; done)
  ·have hL : ltI a b = decide (ltS a.field b.field) := by
    unfold ltI ILt lexR
    rw [Bool.eq_iff_iff]
    simp [h1, h2, ltS_irrefl]
   rw [hL, ← bytesLess_lt]
   refine ND.yes (by omega) ?_
   refine ND.no (by omega) ?_
   refine NB.dec (fun hk3 => ?_) (fun hk3 => ?_)
   ·refine NRet.boolE (b := true) ?_ (NRet.mk [] rfl ⟨.refl _, rfl⟩)
    (simp only [decide_eq_true_eq, decide_eq_false_iff_not, eq_comm (a := true), eq_comm (a := false)]; omega)
   refine NRet.boolE (b := false) ?_ (NRet.mk [] rfl ⟨.refl _, rfl⟩)
   (simp [*]; done)
 ·have hL : ltI a b = decide (ltS a.key b.key) := by
   unfold ltI ILt lexR
   rw [Bool.eq_iff_iff]
   simp [h1]
  rw [hL, ← bytesLess_lt]
  refine ND.no (by omega) ?_
  refine NB.dec (fun hk2 => ?_) (fun hk2 => ?_)
  ·refine NRet.boolE (b := true) ?_ (NRet.mk [] rfl ⟨.refl _, rfl⟩)
   (simp only [decide_eq_true_eq, decide_eq_false_iff_not, eq_comm (a := true), eq_comm (a := false)]; omega)
  refine NRet.boolE (b := false) ?_ (NRet.mk [] rfl ⟨.refl _, rfl⟩)
  (simp [*]; done)
theorem put9_walk (l : List Item) (x : Item) (hl : l.length ≤ 2 ^ 38) : ACalls Tryz.prog Nm.ref09_Put [itemsA l, itemA x] [] (itemsA (putI l x)) [] := by
 refine ACalls_of tab (dr_snd tab mixed) Nm.ref09_Put_h rfl (by kernel_rfl) (Nat.le_of_ble_eq_true rfl) rfl ?_
 skip
 refine NLoop.mk [] [0, 3, 5] (fun m vs H => ∃ i, i ≤ l.length ∧ m = l.length - i ∧ (∀ (j : Nat) (h : j < l.length), j < i → ltI l[j] x = true) ∧ H = [.row .box (.agg 8) [itemA x]] ∧ vs = [itemsA l, .ptr 0 0 0, i64 i]) rfl ?_ ?_
 ·exact Canon.mk [0] rfl ⟨l.length, 0, Nat.zero_le _, rfl, fun j h hj => by omega, rfl, rfl⟩
 rintro m vs H ⟨i, hi, rfl, ht, rfl, rfl⟩
 have fin : (∀ h : i < l.length, ltI l[i] x = false) → putI l x = l.take i ++ x :: l.drop i := fun h => putI_at l x i hi ht h
 have et : List.take i (l.map itemA) = (l.take i).map itemA := List.map_take.symm
 have ed : List.drop i (l.map itemA) = (l.drop i).map itemA := List.map_drop.symm
 by_cases hil : i < l.length
 ·have h1 := less9_walk l[i] x
  cases hp : ltI l[i] x with
  | true =>
   rw [hp] at h1
   refine NP.mk (by kernel_rfl) ?_
   refine NDr.w _ ?_
   refine NDr.w _ ?_
   refine NDr.w _ ?_
   apply NDr.pure
   ·refine ND.yes (by (simp only [zLm, zLa, zLr, zLc, zLn, zLt, zLd]; omega)) ?_
    exact ⟨rfl, rfl⟩
   refine NDr.w _ ?_
   refine NDr.w _ ?_
   refine NDr.w _ ?_
   apply NDr.pure
   ·refine NP.mk (by omega) ?_
    refine NG.mapN (by omega) ?_
    exact ⟨rfl, rfl⟩
   refine NDr.w _ ?_
   apply NDr.rd [0]
   ·intro fH TH
    exact ⟨rfl, rfl⟩
   apply NDr.pure
   ·refine NCall.call (h1) rfl rfl ?_
    exact ⟨rfl, rfl⟩
   refine NDr.w _ ?_
   refine NP.mk (by kernel_rfl) ?_
   refine NW.w ?_
   exact Canon.mk [0] rfl ⟨l.length - (i + 1), by omega, i + 1, by omega, rfl, fun j hj hji => by
    rcases Nat.lt_or_ge j i with h | h
    ·exact ht j hj h
    ·have : j = i := by omega
     subst this; exact hp, rfl, rfl⟩
  | false =>
   rw [hp] at h1
   rw [fin fun _ => hp]
   refine NP.mk (by kernel_rfl) ?_
   refine NDr.w _ ?_
   refine NDr.w _ ?_
   refine NDr.w _ ?_
   apply NDr.pure
   ·refine ND.yes (by (simp only [zLm, zLa, zLr, zLc, zLn, zLt, zLd]; omega)) ?_
    exact ⟨rfl, rfl⟩
   refine NDr.w _ ?_
   refine NDr.w _ ?_
   refine NDr.w _ ?_
   apply NDr.pure
   ·refine NP.mk (by omega) ?_
    refine NG.mapN (by omega) ?_
    exact ⟨rfl, rfl⟩
   refine NDr.w _ ?_
   apply NDr.rd [0]
   ·intro fH TH
    exact ⟨rfl, rfl⟩
   apply NDr.pure
   ·refine NCall.call (h1) rfl rfl ?_
    exact ⟨rfl, rfl⟩
   refine NDr.w _ ?_
   refine NP.mk (by kernel_rfl) ?_
   refine NP.mk (by (simp only [zLm, zLa, zLr, zLc, zLn, zLt, zLd]; omega)) ?_
   refine NFz.own ?_
   refine NApp.endA rfl (by simp; omega) ?_
   refine NP.mk (by kernel_rfl) ?_
   apply NDr.any
   ·intro H'
    exact ⟨rfl, rfl⟩
   apply NDr.rd [0]
   ·intro fH TH
    exact ⟨rfl, rfl⟩
   refine NDr.w _ ?_
   apply NDr.efw [2]
   ·refine NFz.own ?_
    refine NApp.endA rfl (by simp; omega) ?_
    exact ⟨rfl, rfl⟩
   ·repeat (first | exact True.intro | refine ⟨by first | exact rfl | exact True.intro, ?_⟩)
   refine NDr.w _ ?_
   refine NDr.w _ ?_
   apply NDr.pure
   ·refine NP.mk (by (simp only [zLm, zLa, zLr, zLc, zLn, zLt, zLd]; omega)) ?_
    exact ⟨rfl, rfl⟩
   apply NDr.efw [3]
   ·refine NFz.own ?_
    refine NApp.endA rfl (by simp; omega) ?_
    exact ⟨rfl, rfl⟩
   ·repeat (first | exact True.intro | refine ⟨by first | exact rfl | exact True.intro, ?_⟩)
   apply NDr.any
   ·intro H'
    exact ⟨rfl, rfl⟩
   refine NP.mk (by kernel_rfl) ?_
   exact NRet.mk [] rfl (NFrz.mk ((l.take i ++ x :: l.drop i).map itemA) (by simp) (by rw [List.drop_zero, List.take_length, Int.toNat_natCast, List.map_append, List.map_cons, List.map_take, List.map_drop, List.append_assoc]; rfl) ⟨.refl _, rfl⟩)
 ·rw [fin fun h => absurd h hil]
  refine NP.mk (by kernel_rfl) ?_
  refine NDr.w _ ?_
  refine NDr.w _ ?_
  refine NDr.w _ ?_
  apply NDr.pure
  ·refine ND.no (by (simp only [zLm, zLa, zLr, zLc, zLn, zLt, zLd]; omega)) ?_
   exact ⟨rfl, rfl⟩
  refine NDr.w _ ?_
  refine NDr.w _ ?_
  refine NP.mk (by kernel_rfl) ?_
  refine NP.mk (by (simp only [zLm, zLa, zLr, zLc, zLn, zLt, zLd]; omega)) ?_
  refine NFz.own ?_
  refine NApp.endA rfl (by simp; omega) ?_
  refine NP.mk (by kernel_rfl) ?_
  apply NDr.any
  ·intro H'
   exact ⟨rfl, rfl⟩
  apply NDr.rd [0]
  ·intro fH TH
   exact ⟨rfl, rfl⟩
  refine NDr.w _ ?_
  apply NDr.efw [2]
  ·refine NFz.own ?_
   refine NApp.endA rfl (by simp; omega) ?_
   exact ⟨rfl, rfl⟩
  ·repeat (first | exact True.intro | refine ⟨by first | exact rfl | exact True.intro, ?_⟩)
  refine NDr.w _ ?_
  refine NDr.w _ ?_
  apply NDr.pure
  ·refine NP.mk (by (simp only [zLm, zLa, zLr, zLc, zLn, zLt, zLd]; omega)) ?_
   exact ⟨rfl, rfl⟩
  apply NDr.efw [3]
  ·refine NFz.own ?_
   refine NApp.endA rfl (by simp; omega) ?_
   exact ⟨rfl, rfl⟩
  ·repeat (first | exact True.intro | refine ⟨by first | exact rfl | exact True.intro, ?_⟩)
  apply NDr.any
  ·intro H'
   exact ⟨rfl, rfl⟩
  refine NP.mk (by kernel_rfl) ?_
  exact NRet.mk [] rfl (NFrz.mk ((l.take i ++ x :: l.drop i).map itemA) (by simp) (by rw [List.drop_zero, List.take_length, Int.toNat_natCast, List.map_append, List.map_cons, List.map_take, List.map_drop, List.append_assoc]; rfl) ⟨.refl _, rfl⟩)
def firstB (l : List Item) (i k : Nat) : Prop := ∀ (j : Nat) (y : Item), j < k → l[j]? = some y → ∀ x, l[i]? = some x → y.dot = x.dot → ¬ ILt y x ∧ ¬ (y = x ∧ j < i)
theorem norm9_walk (l : List Item) (hl : l.length ≤ 60000) : ACalls Tryz.prog Nm.ref09_Norm [itemsA l] [] (itemsA (norm l)) [] := by
 refine ACalls_of tab (dr_snd tab mixed) Nm.ref09_Norm_h rfl (by kernel_rfl) (Nat.le_of_ble_eq_true rfl) rfl ?_
 refine NLoop.mk [] [0, 3, 4] (fun m vs H => ∃ (i : Nat) (out : List Item), i ≤ l.length ∧ m = l.length - i ∧ out.length ≤ i ∧ Laid l out i ∧ H = [] ∧ vs = [itemsA l, itemsA out, i64 i]) rfl ?_ ?_
 ·exact Canon.wk [] [itemsA l, itemsA [], i64 0] rfl ⟨.cons (.refl _) (.cons (.nils _) (.cons (.refl _) .nil)), l.length, 0, [], Nat.zero_le _, rfl, Nat.le_refl _, laid_zero l, rfl, rfl⟩
 rintro m vs H ⟨i, out, hi, rfl, hol, hL, rfl, rfl⟩
 by_cases hil : i < l.length
 ·have hx := List.getElem?_eq_getElem hil
  refine ND.yes (by (simp only [zLm, zLa, zLr, zLc, zLn, zLt, zLd]; omega)) ?_
  refine NLoop.mk [] [0, 3, 4, 5, 6] (fun m vs H => ∃ (k : Nat) (fb : Bool), k ≤ l.length ∧ m = l.length - k ∧ (fb = true ↔ firstB l i k) ∧ H = [] ∧ vs = [itemsA l, itemsA out, i64 i, .bool fb, i64 k]) rfl ?_ ?_
  ·exact Canon.mk [] rfl ⟨l.length, 0, true, Nat.zero_le _, rfl, ⟨fun _ j y hj => by omega, fun _ => rfl⟩, rfl, rfl⟩
  rintro m vs H ⟨k, fb, hk, rfl, hfb, rfl, rfl⟩
  by_cases hkl : k < l.length
  ·have hy := List.getElem?_eq_getElem hkl
   have h1 := less9_walk l[k] l[i]
   have step : ((l[k].dot = l[i].dot → ¬ ILt l[k] l[i] ∧ ¬ (l[k] = l[i] ∧ k < i)) → (fb = true ↔ firstB l i (k + 1))) ∧ (¬ (l[k].dot = l[i].dot → ¬ ILt l[k] l[i] ∧ ¬ (l[k] = l[i] ∧ k < i)) → (false = true ↔ firstB l i (k + 1))) := by
    constructor
    ·intro hb
     rw [hfb]
     constructor
     ·intro h j y hj hjy x hxx hd
      rcases Nat.lt_or_ge j k with h' | h'
      ·exact h j y h' hjy x hxx hd
      ·have : j = k := by omega
       subst this
       rw [hy] at hjy; rw [hx] at hxx
       cases hjy; cases hxx
       exact hb hd
     ·intro h j y hj hjy
      exact h j y (by omega) hjy
    ·intro hb
     refine ⟨fun h => by simp at h, fun h => absurd (fun hd => h k l[k] (by omega) hy l[i] hx hd) hb⟩
   by_cases hd : l[k].dot = l[i].dot
   ·have d1 : l[k].dot.node = l[i].dot.node := by rw [hd]
    have d2 : l[k].dot.seq = l[i].dot.seq := by rw [hd]
    have d3 : l[k].dot.at' = l[i].dot.at' := by rw [hd]
    cases hp : ltI l[k] l[i] with
    | true =>
     rw [hp] at h1
     have st := step.2 fun h => (h hd).1 (of_decide_eq_true hp)
     refine ND.yes (by (simp only [zLm, zLa, zLr, zLc, zLn, zLt, zLd]; omega)) ?_
     refine NP.mk (by kernel_rfl) ?_
     refine NDr.w _ ?_
     refine NDr.w _ ?_
     apply NDr.pure
     ·refine NP.mk (by omega) ?_
      refine NG.mapN (by omega) ?_
      exact ⟨rfl, rfl⟩
     refine NDr.w _ ?_
     refine NDr.w _ ?_
     refine NDr.w _ ?_
     refine NDr.w _ ?_
     apply NDr.pure
     ·refine NP.mk (by omega) ?_
      refine NG.mapN (by omega) ?_
      exact ⟨rfl, rfl⟩
     refine NDr.w _ ?_
     refine NDr.w _ ?_
     apply NDr.pure
     ·refine ND.yes (by simp [*]) ?_
      exact ⟨rfl, rfl⟩
     refine NDr.w _ ?_
     refine NDr.w _ ?_
     refine NDr.w _ ?_
     apply NDr.pure
     ·refine NP.mk (by omega) ?_
      refine NG.mapN (by omega) ?_
      exact ⟨rfl, rfl⟩
     refine NDr.w _ ?_
     refine NDr.w _ ?_
     refine NDr.w _ ?_
     apply NDr.pure
     ·refine NP.mk (by omega) ?_
      refine NG.mapN (by omega) ?_
      exact ⟨rfl, rfl⟩
     refine NDr.w _ ?_
     apply NDr.pure
     ·refine NCall.call (h1) rfl rfl ?_
      exact ⟨rfl, rfl⟩
     refine NDr.w _ ?_
     refine NDr.w _ ?_
     refine NDr.w _ ?_
     refine NP.mk (by kernel_rfl) ?_
     refine NW.w ?_
     exact Canon.mk [] rfl ⟨l.length - (k + 1), by omega, k + 1, false, by omega, rfl, st, rfl, rfl⟩
    | false =>
     rw [hp] at h1
     by_cases he : l[k] = l[i]
     ·by_cases hki : k < i
      ·have st := step.2 fun h => (h hd).2 ⟨he, hki⟩
       refine ND.yes (by (simp only [zLm, zLa, zLr, zLc, zLn, zLt, zLd]; omega)) ?_
       refine NP.mk (by kernel_rfl) ?_
       refine NDr.w _ ?_
       refine NDr.w _ ?_
       apply NDr.pure
       ·refine NP.mk (by omega) ?_
        refine NG.mapN (by omega) ?_
        exact ⟨rfl, rfl⟩
       refine NDr.w _ ?_
       refine NDr.w _ ?_
       refine NDr.w _ ?_
       refine NDr.w _ ?_
       apply NDr.pure
       ·refine NP.mk (by omega) ?_
        refine NG.mapN (by omega) ?_
        exact ⟨rfl, rfl⟩
       refine NDr.w _ ?_
       refine NDr.w _ ?_
       apply NDr.pure
       ·refine ND.yes (by simp [*]) ?_
        exact ⟨rfl, rfl⟩
       refine NDr.w _ ?_
       refine NDr.w _ ?_
       refine NDr.w _ ?_
       apply NDr.pure
       ·refine NP.mk (by omega) ?_
        refine NG.mapN (by omega) ?_
        exact ⟨rfl, rfl⟩
       refine NDr.w _ ?_
       refine NDr.w _ ?_
       refine NDr.w _ ?_
       apply NDr.pure
       ·refine NP.mk (by omega) ?_
        refine NG.mapN (by omega) ?_
        exact ⟨rfl, rfl⟩
       refine NDr.w _ ?_
       apply NDr.pure
       ·refine NCall.call (h1) rfl rfl ?_
        exact ⟨rfl, rfl⟩
       refine NDr.w _ ?_
       refine NDr.w _ ?_
       refine NDr.w _ ?_
       apply NDr.pure
       ·refine NP.mk (by omega) ?_
        refine NG.mapN (by omega) ?_
        exact ⟨rfl, rfl⟩
       refine NDr.w _ ?_
       refine NDr.w _ ?_
       refine NDr.w _ ?_
       apply NDr.pure
       ·refine NP.mk (by omega) ?_
        refine NG.mapN (by omega) ?_
        exact ⟨rfl, rfl⟩
       refine NDr.w _ ?_
       apply NDr.pure
       ·refine ND.yes (by simp [*]) ?_
        exact ⟨rfl, rfl⟩
       refine NDr.w _ ?_
       refine NDr.w _ ?_
       refine NDr.w _ ?_
       apply NDr.pure
       ·refine ND.yes (by omega) ?_
        exact ⟨rfl, rfl⟩
       refine NDr.w _ ?_
       refine NDr.w _ ?_
       refine NDr.w _ ?_
       refine NP.mk (by kernel_rfl) ?_
       refine NW.w ?_
       exact Canon.mk [] rfl ⟨l.length - (k + 1), by omega, k + 1, false, by omega, rfl, st, rfl, rfl⟩
      ·have st := step.1 fun _ => ⟨of_decide_eq_false hp, fun h => hki h.2⟩
       refine ND.yes (by (simp only [zLm, zLa, zLr, zLc, zLn, zLt, zLd]; omega)) ?_
       refine NP.mk (by kernel_rfl) ?_
       refine NDr.w _ ?_
       refine NDr.w _ ?_
       apply NDr.pure
       ·refine NP.mk (by omega) ?_
        refine NG.mapN (by omega) ?_
        exact ⟨rfl, rfl⟩
       refine NDr.w _ ?_
       refine NDr.w _ ?_
       refine NDr.w _ ?_
       refine NDr.w _ ?_
       apply NDr.pure
       ·refine NP.mk (by omega) ?_
        refine NG.mapN (by omega) ?_
        exact ⟨rfl, rfl⟩
       refine NDr.w _ ?_
       refine NDr.w _ ?_
       apply NDr.pure
       ·refine ND.yes (by simp [*]) ?_
        exact ⟨rfl, rfl⟩
       refine NDr.w _ ?_
       refine NDr.w _ ?_
       refine NDr.w _ ?_
       apply NDr.pure
       ·refine NP.mk (by omega) ?_
        refine NG.mapN (by omega) ?_
        exact ⟨rfl, rfl⟩
       refine NDr.w _ ?_
       refine NDr.w _ ?_
       refine NDr.w _ ?_
       apply NDr.pure
       ·refine NP.mk (by omega) ?_
        refine NG.mapN (by omega) ?_
        exact ⟨rfl, rfl⟩
       refine NDr.w _ ?_
       apply NDr.pure
       ·refine NCall.call (h1) rfl rfl ?_
        exact ⟨rfl, rfl⟩
       refine NDr.w _ ?_
       refine NDr.w _ ?_
       refine NDr.w _ ?_
       apply NDr.pure
       ·refine NP.mk (by omega) ?_
        refine NG.mapN (by omega) ?_
        exact ⟨rfl, rfl⟩
       refine NDr.w _ ?_
       refine NDr.w _ ?_
       refine NDr.w _ ?_
       apply NDr.pure
       ·refine NP.mk (by omega) ?_
        refine NG.mapN (by omega) ?_
        exact ⟨rfl, rfl⟩
       refine NDr.w _ ?_
       apply NDr.pure
       ·refine ND.yes (by simp [*]) ?_
        exact ⟨rfl, rfl⟩
       refine NDr.w _ ?_
       refine NDr.w _ ?_
       refine NDr.w _ ?_
       apply NDr.pure
       ·refine ND.no (by omega) ?_
        exact ⟨rfl, rfl⟩
       refine NDr.w _ ?_
       refine NDr.w _ ?_
       refine NDr.w _ ?_
       refine NP.mk (by kernel_rfl) ?_
       refine NW.w ?_
       exact Canon.mk [] rfl ⟨l.length - (k + 1), by omega, k + 1, fb, by omega, rfl, st, rfl, rfl⟩
     ·have st := step.1 fun _ => ⟨of_decide_eq_false hp, fun h => he h.1⟩
      have hne : ¬ (l[k].key = l[i].key ∧ l[k].field = l[i].field ∧ l[k].kind = l[i].kind ∧ l[k].elem = l[i].elem ∧ l[k].n = l[i].n ∧ l[k].dot.node = l[i].dot.node ∧ l[k].dot.seq = l[i].dot.seq ∧ l[k].dot.at' = l[i].dot.at') := fun h => he (Item.ext h.1 h.2.1 h.2.2.1 h.2.2.2.1 h.2.2.2.2.1 hd)
      have hq : ¬ ((decide (l[k].key = l[i].key) && (decide (l[k].field = l[i].field) && (decide (l[k].kind = l[i].kind) && (decide (l[k].elem = l[i].elem) && (decide (l[k].n = l[i].n) && (decide (l[k].dot.node = l[i].dot.node) && (decide (l[k].dot.seq = l[i].dot.seq) && (decide (l[k].dot.at' = l[i].dot.at') && true)))))))) = true) := fun h => by
       simp only [Bool.and_eq_true, decide_eq_true_eq, and_true] at h
       exact hne h
      refine ND.yes (by (simp only [zLm, zLa, zLr, zLc, zLn, zLt, zLd]; omega)) ?_
      refine NP.mk (by kernel_rfl) ?_
      refine NDr.w _ ?_
      refine NDr.w _ ?_
      apply NDr.pure
      ·refine NP.mk (by omega) ?_
       refine NG.mapN (by omega) ?_
       exact ⟨rfl, rfl⟩
      refine NDr.w _ ?_
      refine NDr.w _ ?_
      refine NDr.w _ ?_
      refine NDr.w _ ?_
      apply NDr.pure
      ·refine NP.mk (by omega) ?_
       refine NG.mapN (by omega) ?_
       exact ⟨rfl, rfl⟩
      refine NDr.w _ ?_
      refine NDr.w _ ?_
      apply NDr.pure
      ·refine ND.yes (by simp [*]) ?_
       exact ⟨rfl, rfl⟩
      refine NDr.w _ ?_
      refine NDr.w _ ?_
      refine NDr.w _ ?_
      apply NDr.pure
      ·refine NP.mk (by omega) ?_
       refine NG.mapN (by omega) ?_
       exact ⟨rfl, rfl⟩
      refine NDr.w _ ?_
      refine NDr.w _ ?_
      refine NDr.w _ ?_
      apply NDr.pure
      ·refine NP.mk (by omega) ?_
       refine NG.mapN (by omega) ?_
       exact ⟨rfl, rfl⟩
      refine NDr.w _ ?_
      apply NDr.pure
      ·refine NCall.call (h1) rfl rfl ?_
       exact ⟨rfl, rfl⟩
      refine NDr.w _ ?_
      refine NDr.w _ ?_
      refine NDr.w _ ?_
      apply NDr.pure
      ·refine NP.mk (by omega) ?_
       refine NG.mapN (by omega) ?_
       exact ⟨rfl, rfl⟩
      refine NDr.w _ ?_
      refine NDr.w _ ?_
      refine NDr.w _ ?_
      apply NDr.pure
      ·refine NP.mk (by omega) ?_
       refine NG.mapN (by omega) ?_
       exact ⟨rfl, rfl⟩
      refine NDr.w _ ?_
      apply NDr.pure
      ·refine ND.no (by assumption) ?_
       exact ⟨rfl, rfl⟩
      refine NDr.w _ ?_
      refine NDr.w _ ?_
      refine NDr.w _ ?_
      refine NDr.w _ ?_
      refine NP.mk (by kernel_rfl) ?_
      refine NW.w ?_
      exact Canon.mk [] rfl ⟨l.length - (k + 1), by omega, k + 1, fb, by omega, rfl, st, rfl, rfl⟩
   ·have st := step.1 fun h => absurd h hd
    have dn : ¬ (l[k].dot.node = l[i].dot.node ∧ l[k].dot.seq = l[i].dot.seq ∧ l[k].dot.at' = l[i].dot.at') := fun h => hd (Dot.ext h.1 h.2.1 h.2.2)
    refine ND.yes (by (simp only [zLm, zLa, zLr, zLc, zLn, zLt, zLd]; omega)) ?_
    refine NP.mk (by kernel_rfl) ?_
    refine NDr.w _ ?_
    refine NDr.w _ ?_
    apply NDr.pure
    ·refine NP.mk (by omega) ?_
     refine NG.mapN (by omega) ?_
     exact ⟨rfl, rfl⟩
    refine NDr.w _ ?_
    refine NDr.w _ ?_
    refine NDr.w _ ?_
    refine NDr.w _ ?_
    apply NDr.pure
    ·refine NP.mk (by omega) ?_
     refine NG.mapN (by omega) ?_
     exact ⟨rfl, rfl⟩
    refine NDr.w _ ?_
    refine NDr.w _ ?_
    apply NDr.pure
    ·refine ND.no (by simp [*]) ?_
     exact ⟨rfl, rfl⟩
    refine NDr.w _ ?_
    refine NDr.w _ ?_
    refine NP.mk (by kernel_rfl) ?_
    refine NW.w ?_
    exact Canon.mk [] rfl ⟨l.length - (k + 1), by omega, k + 1, fb, by omega, rfl, st, rfl, rfl⟩
  ·have : k = l.length := by omega
   subst this
   have hfa : firstB l i l.length ↔ firstAt l i l[i] := by
    constructor
    ·intro h k y hy hd
     exact h k y (List.getElem?_eq_some_iff.1 hy).1 hy l[i] hx hd
    ·intro h j y _ hy x hxx hd
     rw [hx] at hxx; cases hxx
     exact h j y hy hd
   rw [hfa] at hfb
   have h2 := put9_walk out l[i] (by omega)
   have hpl := (putI_perm out l[i]).length_eq
   rw [List.length_cons] at hpl
   cases fb with
   | true =>
    have st := laid_put hL hx (hfb.1 rfl)
    refine ND.no (by (simp only [zLm, zLa, zLr, zLc, zLn, zLt, zLd]; omega)) ?_
    refine NP.mk (by omega) ?_
    refine NG.mapN (by omega) ?_
    refine NCall.call (h2) rfl rfl ?_
    refine NW.w ?_
    exact Canon.mk [] rfl ⟨l.length - (i + 1), by omega, i + 1, putI out l[i], by omega, rfl, by omega, st, rfl, rfl⟩
   | false =>
    have st := laid_skip hL hx (fun h => by have := hfb.2 h; simp at this)
    refine ND.no (by (simp only [zLm, zLa, zLr, zLc, zLn, zLt, zLd]; omega)) ?_
    refine NW.w ?_
    exact Canon.mk [] rfl ⟨l.length - (i + 1), by omega, i + 1, out, by omega, rfl, by omega, st, rfl, rfl⟩
 ·have : i = l.length := by omega
  subst this
  rw [← laid_end hL]
  refine ND.no (by (simp only [zLm, zLa, zLr, zLc, zLn, zLt, zLd]; omega)) ?_
  exact NRet.mk [] rfl ⟨.refl _, rfl⟩
end Go.Bv
namespace Go.Bv
set_option linter.unusedSimpArgs false
set_option linter.unusedVariables false
set_option maxHeartbeats 4000000
set_option maxRecDepth 20000
open Go Go.Proofs
theorem copy9_walk (l : List Item) (hl : l.length ≤ 2 ^ 38) : ACalls Tryz.prog Nm.ref09_Copy [itemsA l] [] (itemsA l) [] := by
 refine ACalls_of tab (dr_snd tab mixed) Nm.ref09_Copy_h rfl (by kernel_rfl) (Nat.le_of_ble_eq_true rfl) rfl ?_
 refine NFz.own ?_
 refine NApp.endA rfl (by simp; omega) ?_
 exact NRet.mk [] rfl (NFrz.mk (l.map itemA) (by simp) (by rw [List.drop_zero, List.take_of_length_le (by simp)]) ⟨.refl _, rfl⟩)
theorem without9_own (l : List Item) (D : List Dot) (hl : l.length ≤ 2 ^ 38) (hD : D.length ≤ 2 ^ 40) : ACalls Tryz.prog Nm.ref09_Without [itemsA l, dotsA D] [] (.own 0 0 ((without l D).map itemA).length) [.row .vrow (.agg 8) ((without l D).map itemA)] := by
 refine ACalls_of tab (dr_snd tab mixed) Nm.ref09_Without_h rfl (by kernel_rfl) (Nat.le_of_ble_eq_true rfl) rfl ?_
 refine NLoop.mk [(5, .agg 8)] [0, 1, 5, 6] (fun m vs H => ∃ i, i ≤ l.length ∧ m = l.length - i ∧ H = [.row .vrow (.agg 8) ((without (l.take i) D).map itemA)] ∧ vs = [itemsA l, dotsA D, .own 0 0 ((without (l.take i) D).map itemA).length, i64 i]) rfl ?_ ?_
 ·exact Canon.mk [0] rfl ⟨l.length, 0, Nat.zero_le _, rfl, rfl, rfl⟩
 rintro m vs H ⟨i, hi, rfl, rfl, rfl⟩
 by_cases hil : i < l.length
 ·have hc := is9_walk D l[i].dot hD
  have hft := filter_take (fun e : Item => decide (e.dot ∉ D)) l hil
  have hfl : (without (l.take i) D).length ≤ 2 ^ 38 := by
   unfold without
   refine Nat.le_trans (List.length_filter_le _ _) ?_
   rw [List.length_take]; omega
  unfold without at *
  generalize (l.take i).filter (fun e : Item => decide (e.dot ∉ D)) = F at *
  by_cases hp : l[i].dot ∈ D
  ·rw [decide_eq_true hp] at hc
   rw [decide_eq_false (fun h => h hp), if_neg (by simp)] at hft
   refine ND.yes (by (simp only [zLm, zLa, zLr, zLc, zLn, zLt, zLd]; omega)) ?_
   refine NP.mk (by omega) ?_
   refine NG.mapN (by omega) ?_
   refine NCall.call (hc) rfl rfl ?_
   refine NW.w ?_
   exact Canon.mk [0] rfl ⟨l.length - (i + 1), by omega, i + 1, by omega, rfl, by rw [hft] <;> rfl, by rw [hft] <;> rfl⟩
  ·rw [decide_eq_false hp] at hc
   rw [decide_eq_true hp, if_pos rfl] at hft
   refine ND.yes (by (simp only [zLm, zLa, zLr, zLc, zLn, zLt, zLd]; omega)) ?_
   refine NP.mk (by omega) ?_
   refine NG.mapN (by omega) ?_
   refine NCall.call (hc) rfl rfl ?_
   refine NP.mk (by omega) ?_
   refine NG.mapN (by omega) ?_
   refine NFz.own ?_
   refine NApp.endA rfl (by simp; omega) ?_
   refine NW.w ?_
   exact Canon.mk [1] rfl ⟨l.length - (i + 1), by omega, i + 1, by omega, rfl, by rw [hft, List.map_append]; rfl, by rw [hft, List.map_append]; rfl⟩
 have : i = l.length := by omega
 subst this
 rw [List.take_length]
 refine ND.no (by (simp only [zLm, zLa, zLr, zLc, zLn, zLt, zLd]; omega)) ?_
 exact NRet.mk [0] rfl ⟨.refl _, rfl⟩
theorem doL_snoc (n s : Int) (l : List Item) {es : List Eff} {i : Nat} (h : i < es.length) : doL n s l (es.take (i + 1)) = doE n s (doL n s l (es.take i)) es[i] := by
 unfold doL
 rw [List.take_succ_eq_append_getElem h, List.foldl_append]; rfl
theorem do10_walk (l : List Item) (n s : Int) (es : List Eff) (hl : l.length ≤ 50000) (he : es.length ≤ 5000) (hx : ∀ e ∈ es, smEff e) : ACalls Tryz.prog Nm.ref10_Do [itemsA l, i64 n, i64 s, effsA es] [] (itemsA (doL n s l es)) [] := by
 refine ACalls_of tab (dr_snd tab mixed) Nm.ref10_Do_h rfl (by kernel_rfl) (Nat.le_of_ble_eq_true rfl) rfl ?_
 have k0 := copy9_walk l (by omega)
 refine NCall.call (k0) rfl rfl ?_
 refine NLoop.mk [] [1, 2, 3, 9, 10] (fun m vs H => ∃ i, i ≤ es.length ∧ m = es.length - i ∧ H = [] ∧ vs = [i64 n, i64 s, effsA es, itemsA (doL n s l (es.take i)), i64 i]) rfl ?_ ?_
 ·exact Canon.mk [] rfl ⟨es.length, 0, Nat.zero_le _, rfl, rfl, rfl⟩
 rintro m vs H ⟨i, hi, rfl, rfl, rfl⟩
 by_cases hil : i < es.length
 ·have hs := hx _ (List.getElem_mem hil)
  have hstep := doL_snoc n s l hil
  have hlen := doL_len (n := n) (s := s) (es.take i) l
  rw [List.length_take] at hlen
  have hw := List.length_filter_le (fun x : Item => decide (x.dot ∉ es[i].drops)) (doL n s l (es.take i))
  have k2 := without9_own (doL n s l (es.take i)) es[i].drops (by omega) hs.2.2.2
  have k3 := made10_walk n s es[i]
  have k4 := norm9_walk (rawE n s (doL n s l (es.take i)) es[i]) (by
   unfold rawE madeL without
   rw [List.length_append]
   split <;> simp only [List.length_nil, List.length_cons] <;> omega)
  rw [show norm (rawE n s (doL n s l (es.take i)) es[i]) = doL n s l (es.take (i + 1)) from hstep.symm] at k4
  unfold rawE madeL at k4
  rw [show List.filter (fun x : Item => decide (x.dot ∉ es[i].drops)) (doL n s l (es.take i)) = without (doL n s l (es.take i)) es[i].drops from rfl] at hw
  generalize without (doL n s l (es.take i)) es[i].drops = w at *
  obtain ⟨nxt, hnxt⟩ : ∃ c, c = doL n s l (es.take (i + 1)) := ⟨_, rfl⟩
  rw [← hnxt] at k4
  generalize doL n s l (es.take i) = cur at *
  by_cases hk : es[i].kind = 0
  ·rw [if_pos hk, List.append_nil] at k4
   refine ND.yes (by (simp only [zLm, zLa, zLr, zLc, zLn, zLt, zLd]; omega)) ?_
   refine NP.mk (by omega) ?_
   refine NG.mapN (by omega) ?_
   refine NCall.atA (ACalls.frame (k2) rfl _) ?_
   refine NP.mk (by omega) ?_
   refine NG.mapN (by omega) ?_
   refine ND.yes (by omega) ?_
   refine NCall.eq (by simp only [List.length_map] <;> exact rfl) ?_
   refine NCall.frzAllN [0] (k4) (.cons (.own (by simp) rfl (by simp) (by simp) (by rw [List.drop_zero, List.take_of_length_le (by simp)])) .nil) rfl rfl rfl ?_
   refine NW.w ?_
   exact Canon.mk [] rfl ⟨es.length - (i + 1), by omega, i + 1, by omega, rfl, rfl, by rw [← hnxt]; rfl⟩
  ·rw [if_neg hk, show itemsA (w ++ [made n s es[i]]) = .list (.agg 8) (w.map itemA ++ [itemA (made n s es[i])]) by simp [itemsA]] at k4
   refine ND.yes (by (simp only [zLm, zLa, zLr, zLc, zLn, zLt, zLd]; omega)) ?_
   refine NP.mk (by omega) ?_
   refine NG.mapN (by omega) ?_
   refine NCall.atA (ACalls.frame (k2) rfl _) ?_
   refine NP.mk (by omega) ?_
   refine NG.mapN (by omega) ?_
   refine ND.no (by omega) ?_
   refine NP.mk (by omega) ?_
   refine NG.mapN (by omega) ?_
   refine NCall.call (k3) rfl rfl ?_
   refine NFz.own ?_
   refine NApp.endA rfl (by simp; omega) ?_
   refine NCall.roA [1] ?_
   rw [(tl0 _)]
   refine NCall.call (k4) rfl rfl ?_
   refine NW.w ?_
   exact Canon.mk [] rfl ⟨es.length - (i + 1), by omega, i + 1, by omega, rfl, rfl, by rw [← hnxt]; rfl⟩
 have : i = es.length := by omega
 subst this
 rw [List.take_length]
 refine ND.no (by (simp only [zLm, zLa, zLr, zLc, zLn, zLt, zLd]; omega)) ?_
 exact NRet.mk [] rfl ⟨.refl _, rfl⟩
end Go.Bv
namespace Go.Bv
set_option linter.unusedSimpArgs false
set_option linter.unusedVariables false
set_option maxHeartbeats 4000000
set_option maxRecDepth 20000
open Go Go.Proofs
theorem cloneI_walk (l : List Item) (hl : l.length ≤ 2 ^ 38) : ACalls Tryz.prog Nm.slices_Clone_api_Item_api_Item [itemsA l] [] (.own 0 0 l.length) [.row .vrow (.agg 8) (l.map itemA)] := by
 refine ACalls_of tab (dr_snd tab mixed) Nm.slices_Clone_api_Item_api_Item_h rfl (by kernel_rfl) (Nat.le_of_ble_eq_true rfl) rfl ?_
 refine NN.mk (fun h => ?_) ?_
 ·have : l = [] := by simpa using h
  subst this
  exact NRet.ad [(2, .agg 8)] [0] rfl ⟨.refl _, rfl⟩
 ·refine NFz.own ?_
  refine NApp.endA rfl (by simp; omega) ?_
  exact NRet.mk [1] rfl ⟨by rw [List.length_map]; exact .refl _, rfl⟩
theorem indexDot_walk (l : List Dot) (d : Dot) (hl : l.length ≤ 2 ^ 40) : ACalls Tryz.prog Nm.slices_Index_api_Dot_api_Dot [dotsA l, dotA d] [] (i64 (ixI (fun x => decide (d = x)) l)) [] := by
 refine ACalls_of tab (dr_snd tab mixed) Nm.slices_Index_api_Dot_api_Dot_h rfl (by kernel_rfl) (Nat.le_of_ble_eq_true rfl) rfl ?_
 skip
 refine NLoop.mk [] [0, 3, 6, 7, 8] (fun m vs H => ∃ i, i ≤ l.length ∧ m = l.length - i ∧ (∀ x ∈ l.take i, decide (d = x) = false) ∧ H = [.row .box (.agg 3) [dotA d]] ∧ vs = [dotsA l, .ptr 0 0 0, dotsA l, i64 l.length, i64 i]) rfl ?_ ?_
 ·exact Canon.mk [0] rfl ⟨l.length, 0, Nat.zero_le _, rfl, by simp, rfl, by simp [dotsA, i64]⟩
 ·rintro m vs H ⟨i, hi, rfl, ht, rfl, rfl⟩
  by_cases hil : i < l.length
  ·obtain ⟨f1, f2⟩ := find_step hil ht
   by_cases hp : d = l[i]
   ·rw [f1 (decide_eq_true hp)]
    have e1 : d.node = l[i].node := by rw [← hp]
    have e2 : d.seq = l[i].seq := by rw [← hp]
    have e3 : d.at' = l[i].at' := by rw [← hp]
    refine ND.yes (by omega) ?_
    refine NP.mk (by kernel_rfl) ?_
    apply NDr.rd [0]
    ·intro fH TH
     exact ⟨rfl, rfl⟩
    refine NDr.w _ ?_
    refine NDr.w _ ?_
    apply NDr.pure
    ·refine NP.mk (by omega) ?_
     refine NG.mapN (by omega) ?_
     exact ⟨rfl, rfl⟩
    refine NDr.w _ ?_
    apply NDr.pure
    ·refine ND.yes (by simp [*]) ?_
     exact ⟨rfl, rfl⟩
    refine NP.mk (by kernel_rfl) ?_
    exact NRet.mk [] rfl ⟨.refl _, rfl⟩
   ·have hne : ¬ (d.node = l[i].node ∧ d.seq = l[i].seq ∧ d.at' = l[i].at') := fun h => hp (Dot.ext h.1 h.2.1 h.2.2)
    refine ND.yes (by omega) ?_
    refine NP.mk (by kernel_rfl) ?_
    apply NDr.rd [0]
    ·intro fH TH
     exact ⟨rfl, rfl⟩
    refine NDr.w _ ?_
    refine NDr.w _ ?_
    apply NDr.pure
    ·refine NP.mk (by omega) ?_
     refine NG.mapN (by omega) ?_
     exact ⟨rfl, rfl⟩
    refine NDr.w _ ?_
    apply NDr.pure
    ·refine ND.no (by simp [*]) ?_
     exact ⟨rfl, rfl⟩
    refine NP.mk (by kernel_rfl) ?_
    refine NW.w ?_
    exact Canon.mk [0] rfl ⟨l.length - (i + 1), by omega, i + 1, by omega, rfl, f2 (decide_eq_false hp), rfl, rfl⟩
  ·have : i = l.length := by omega
   subst this
   rw [List.take_length] at ht
   rw [find_none ht]
   refine ND.no (by omega) ?_
   exact NRet.mk [] rfl ⟨.refl _, rfl⟩
theorem containsDot_walk (l : List Dot) (d : Dot) (hl : l.length ≤ 2 ^ 40) : ACalls Tryz.prog Nm.slices_Contains_api_Dot_api_Dot [dotsA l, dotA d] [] (.bool (decide (d ∈ l))) [] := by
 refine ACalls_of tab (dr_snd tab mixed) Nm.slices_Contains_api_Dot_api_Dot_h rfl (by kernel_rfl) (Nat.le_of_ble_eq_true rfl) rfl ?_
 have h1 := indexDot_walk l d hl
 have e : decide (d ∈ l) = decide (0 ≤ ixI (fun x => decide (d = x)) l) := by
  rw [← ixI_any]
  rw [Bool.eq_iff_iff]
  simp
 rw [e]
 by_cases h : 0 ≤ ixI (fun x => decide (d = x)) l
 ·rw [decide_eq_true h]
  refine NCall.call (h1) rfl rfl ?_
  refine ND.yes (by omega) ?_
  exact NRet.mk [] rfl ⟨.refl _, rfl⟩
 ·rw [decide_eq_false h]
  refine NCall.call (h1) rfl rfl ?_
  refine ND.no (by omega) ?_
  exact NRet.mk [] rfl ⟨.refl _, rfl⟩
theorem withoutF_walk (D : List Dot) (x : Item) (hD : D.length ≤ 2 ^ 40) : ACalls Tryz.prog Nm.item_Without_1 [itemA x, .ptr 0 0 0] [.row .box .leaf [dotsA D]] (.bool (decide (x.dot ∈ D))) [.row .box .leaf [dotsA D]] := by
 refine ACalls_of tab (dr_snd tab mixed) Nm.item_Without_1_h rfl (by kernel_rfl) (Nat.le_of_ble_eq_true rfl) rfl ?_
 refine NCall.call (containsDot_walk D x.dot hD) rfl rfl ?_
 exact NRet.mk [] rfl ⟨.refl _, rfl⟩
end Go.Bv
namespace Go.Bv
open Go Go.Proofs
def keepD (d : List Item → Item → Bool) (l : List Item) : List Item := l.foldl (fun k x => if d k x then k else k ++ [x]) []
theorem keepD_snoc (d : List Item → Item → Bool) (l : List Item) (x : Item) : keepD d (l ++ [x]) = if d (keepD d l) x then keepD d l else keepD d l ++ [x] := by
 unfold keepD; rw [List.foldl_append]; rfl
theorem keepD_take (d : List Item → Item → Bool) {l : List Item} {j : Nat} (h : j < l.length) : keepD d (l.take (j + 1)) = if d (keepD d (l.take j)) l[j] then keepD d (l.take j) else keepD d (l.take j) ++ [l[j]] := by
 rw [List.take_succ_eq_append_getElem h, keepD_snoc]
theorem keepD_none (d : List Item → Item → Bool) {l : List Item} : ∀ {i : Nat}, i ≤ l.length → (∀ (j : Nat) (h : j < l.length), j < i → d (l.take j) l[j] = false) → keepD d (l.take i) = l.take i
 | 0, _, _ => by simp [keepD]
 | i + 1, hi, h => by
  have ih := keepD_none d (i := i) (by omega) (fun j hj hji => h j hj (by omega))
  have hil : i < l.length := by omega
  rw [keepD_take d hil, ih, h i hil (by omega), if_neg (by simp), List.take_succ_eq_append_getElem hil]
theorem keepD_len (d : List Item → Item → Bool) {l : List Item} : ∀ {j : Nat}, j ≤ l.length → (keepD d (l.take j)).length ≤ j
 | 0, _ => by simp [keepD]
 | j + 1, h => by
  have ih := keepD_len d (l := l) (j := j) (by omega)
  rw [keepD_take d (by omega)]
  split
  ·omega
  ·rw [List.length_append, List.length_cons, List.length_nil]; omega
/-- Behind the first that is let go of there is room. -/
theorem keepD_lt (d : List Item → Item → Bool) {l : List Item} {i : Nat} (hi : i < l.length) (hd : d (keepD d (l.take i)) l[i] = true) : ∀ {j : Nat}, i < j → j ≤ l.length → (keepD d (l.take j)).length < j := by
 intro j hij hj
 induction j with
 | zero => omega
 | succ j ih =>
  rw [keepD_take d (by omega)]
  rcases Nat.lt_or_ge i j with h | h
  ·have := ih h (by omega)
   split
   ·omega
   ·rw [List.length_append, List.length_cons, List.length_nil]; omega
  ·obtain rfl : i = j := by omega
   rw [hd, if_pos rfl]
   have := keepD_len d (l := l) (j := i) (by omega)
   omega
theorem keepD_filter (p : Item → Bool) : ∀ (l : List Item), keepD (fun _ x => p x) l = l.filter fun x => !p x := by
 intro l
 have : ∀ (l k : List Item), l.foldl (fun k x => if p x then k else k ++ [x]) k = k ++ l.filter fun x => !p x := by
  intro l
  induction l with
  | nil => intro k; simp
  | cons x r ih =>
   intro k
   rw [List.foldl_cons, ih, List.filter_cons]
   cases p x <;> simp
 have h := this l []
 rw [List.nil_append] at h
 exact h
def hadI (k : List Item) (x : Item) : Bool := decide (x.dot ∈ k.map Item.dot)
theorem keepD_nub : ∀ (l : List Item), keepD hadI l = nubF [] l := by
 have : ∀ (l k : List Item) (s : List Dot), (∀ d, d ∈ s ↔ d ∈ k.map Item.dot) → l.foldl (fun k x => if hadI k x then k else k ++ [x]) k = k ++ nubF s l := by
  intro l
  induction l with
  | nil => intro k s _; simp [nubF]
  | cons x r ih =>
   intro k s hs
   rw [List.foldl_cons, nubF]
   by_cases h : x.dot ∈ s
   ·have h' : hadI k x = true := decide_eq_true ((hs _).1 h)
    rw [if_pos h, h', if_pos rfl]
    exact ih k s hs
   ·have h' : hadI k x = false := decide_eq_false fun k' => h ((hs _).2 k')
    rw [if_neg h, h', if_neg (by simp), ih (k ++ [x]) (x.dot :: s) (fun d => by
     rw [List.map_append, List.mem_append, List.mem_cons, hs]
     simp [or_comm]), List.append_assoc]
    rfl
 intro l
 have h := this l [] [] (by simp)
 rw [List.nil_append] at h
 exact h
theorem least_ex {P : Nat → Prop} : (∃ i, P i) → ∃ i, P i ∧ ∀ j, j < i → ¬ P j := by
 rintro ⟨i, hi⟩
 induction i using Nat.strongRecOn with
 | _ i ih =>
  by_cases h : ∃ j, j < i ∧ P j
  ·obtain ⟨j, hj, hp⟩ := h
   exact ih j hj hp
  ·exact ⟨i, hi, fun j hj hp => h ⟨j, hj, hp⟩⟩
def zI : AV := .agg [.str [], .str [], i64 0, .str [], i64 0, i64 0, i64 0, i64 0]
end Go.Bv
namespace Go.Bv
set_option linter.unusedSimpArgs false
set_option linter.unusedVariables false
set_option maxHeartbeats 4000000
set_option maxRecDepth 20000
open Go Go.Proofs
theorem indexM_none (g : Nat) (sh : Sh) (cs : List AV) (d : List Item → Item → Bool) (l : List Item) (hl : l.length ≤ 2 ^ 38) (hg : ∀ k, ∀ x ∈ l, ACalls Tryz.prog g [itemA x, .ptr 0 0 0] [.row .box .leaf [.list sh cs]] (.bool (d k x)) [.row .box .leaf [.list sh cs]])
  (hn : ∀ (j : Nat) (h : j < l.length), d (l.take j) l[j] = false) : ACalls Tryz.prog Nm.slices_IndexFunc_api_Item_api_Item [.own 0 0 l.length, .fn g [.ptr 1 0 0]] [.row .vrow (.agg 8) (l.map itemA), .row .box .leaf [.list sh cs]] (i64 (-1)) [.row .vrow (.agg 8) (l.map itemA), .row .box .leaf [.list sh cs]] := by
 refine ACalls_of tab (dr_snd tab mixed) Nm.slices_IndexFunc_api_Item_api_Item_h rfl (by kernel_rfl) (Nat.le_of_ble_eq_true rfl) rfl ?_
 refine NLoop.mk [] [0, 1, 6, 7, 8] (fun m vs H => ∃ i, i ≤ l.length ∧ m = l.length - i ∧ H = [.row .vrow (.agg 8) (l.map itemA), .row .box .leaf [.list sh cs]] ∧ vs = [.own 0 0 l.length, .fn g [.ptr 1 0 0], .own 0 0 l.length, i64 l.length, i64 i]) rfl ?_ ?_
 ·exact Canon.mk [] rfl ⟨l.length, 0, Nat.zero_le _, rfl, rfl, rfl⟩
 ·rintro m vs H ⟨i, hi, rfl, rfl, rfl⟩
  by_cases hil : i < l.length
  ·have hc := hg (l.take i) l[i] (List.getElem_mem hil)
   rw [hn i hil] at hc
   try rw [if_neg (by simp), ← List.take_succ_eq_append_getElem hil] at hc
   refine ND.yes (by omega) ?_
   refine NP.mk (by (simp only [zLm, zLa, zLr, zLc, zLn, zLt, zLd]; omega)) ?_
   refine NG.map0N (by omega) ?_
   refine NCall.subSame [1] (hc) ?_
   refine NW.w ?_
   exact Canon.mk [] rfl ⟨l.length - (i + 1), by omega, i + 1, by omega, rfl, rfl, rfl⟩
  ·have : i = l.length := by omega
   subst this
   try rw [List.take_length]
   refine ND.no (by omega) ?_
   exact NRet.mk [] rfl ⟨.refl _, rfl⟩
theorem indexM_some (g : Nat) (sh : Sh) (cs : List AV) (d : List Item → Item → Bool) (l : List Item) (hl : l.length ≤ 2 ^ 38) (hg : ∀ k, ∀ x ∈ l, ACalls Tryz.prog g [itemA x, .ptr 0 0 0] [.row .box .leaf [.list sh cs]] (.bool (d k x)) [.row .box .leaf [.list sh cs]])
  (i0 : Nat) (h0 : i0 < l.length) (hn : ∀ (j : Nat) (h : j < l.length), j < i0 → d (l.take j) l[j] = false) (hd : d (l.take i0) l[i0] = true) : ACalls Tryz.prog Nm.slices_IndexFunc_api_Item_api_Item [.own 0 0 l.length, .fn g [.ptr 1 0 0]] [.row .vrow (.agg 8) (l.map itemA), .row .box .leaf [.list sh cs]] (i64 i0) [.row .vrow (.agg 8) (l.map itemA), .row .box .leaf [.list sh cs]] := by
 refine ACalls_of tab (dr_snd tab mixed) Nm.slices_IndexFunc_api_Item_api_Item_h rfl (by kernel_rfl) (Nat.le_of_ble_eq_true rfl) rfl ?_
 refine NLoop.mk [] [0, 1, 6, 7, 8] (fun m vs H => ∃ i, i ≤ i0 ∧ m = l.length - i ∧ H = [.row .vrow (.agg 8) (l.map itemA), .row .box .leaf [.list sh cs]] ∧ vs = [.own 0 0 l.length, .fn g [.ptr 1 0 0], .own 0 0 l.length, i64 l.length, i64 i]) rfl ?_ ?_
 ·exact Canon.mk [] rfl ⟨l.length, 0, Nat.zero_le _, rfl, rfl, rfl⟩
 ·rintro m vs H ⟨i, hi, rfl, rfl, rfl⟩
  have hil : i < l.length := by omega
  have hc := hg (l.take i) l[i] (List.getElem_mem hil)
  by_cases hii : i = i0
  ·subst hii
   rw [hd] at hc
   try rw [if_pos rfl] at hc
   refine ND.yes (by omega) ?_
   refine NP.mk (by (simp only [zLm, zLa, zLr, zLc, zLn, zLt, zLd]; omega)) ?_
   refine NG.map0N (by omega) ?_
   refine NCall.subSame [1] (hc) ?_
   exact NRet.mk [] rfl ⟨.refl _, rfl⟩
  ·rw [hn i hil (by omega)] at hc
   try rw [if_neg (by simp), ← List.take_succ_eq_append_getElem hil] at hc
   refine ND.yes (by omega) ?_
   refine NP.mk (by (simp only [zLm, zLa, zLr, zLc, zLn, zLt, zLd]; omega)) ?_
   refine NG.map0N (by omega) ?_
   refine NCall.subSame [1] (hc) ?_
   refine NW.w ?_
   exact Canon.mk [] rfl ⟨l.length - (i + 1), by omega, i + 1, by omega, rfl, rfl, rfl⟩
theorem deleteM_walk (g : Nat) (sh : Sh) (cs : List AV) (d : List Item → Item → Bool) (l : List Item) (hl : l.length ≤ 2 ^ 38) (hg : ∀ k, ∀ x ∈ l, ACalls Tryz.prog g [itemA x, .ptr 0 0 0] [.row .box .leaf [.list sh cs]] (.bool (d k x)) [.row .box .leaf [.list sh cs]]) :
  ACalls Tryz.prog Nm.slices_DeleteFunc_api_Item_api_Item [.own 0 0 l.length, .fn g [.ptr 1 0 0]] [.row .vrow (.agg 8) (l.map itemA), .row .box .leaf [.list sh cs]] (.own 0 0 (keepD d l).length)
   [.row .vrow (.agg 8) ((keepD d l).map itemA ++ List.replicate (l.length - (keepD d l).length) zI), .row .box .leaf [.list sh cs]] := by
 refine ACalls_of tab (dr_snd tab mixed) Nm.slices_DeleteFunc_api_Item_api_Item_h rfl (by kernel_rfl) (Nat.le_of_ble_eq_true rfl) rfl ?_
 by_cases hex : ∃ i, ∃ h : i < l.length, d (l.take i) l[i] = true
 ·obtain ⟨i0, ⟨h0, hd⟩, hmin⟩ := least_ex hex
  have hn : ∀ (j : Nat) (h : j < l.length), j < i0 → d (l.take j) l[j] = false := fun j h hj => by simpa using fun k => hmin j hj ⟨h, k⟩
  have hk0 := keepD_none d (l := l) (i := i0) (by omega) hn
  have hk1 : keepD d (l.take (i0 + 1)) = l.take i0 := by rw [keepD_take d h0, hk0, hd, if_pos rfl]
  have hlt : ∀ {j : Nat}, i0 < j → j ≤ l.length → (keepD d (l.take j)).length < j := fun {j} => keepD_lt d h0 (by rw [hk0, hd])
  have k1 := indexM_some g sh cs d l hl hg i0 h0 hn hd
  refine NCall.atA (k1) ?_
  refine ND.no (by omega) ?_
  refine NW.w ?_
  refine NLoop.mk [] [0, 1, 5, 6] (fun m vs H => ∃ j, i0 < j ∧ j ≤ l.length ∧ m = l.length - j ∧ H = [.row .vrow (.agg 8) ((keepD d (l.take j) ++ l.drop (keepD d (l.take j)).length).map itemA), .row .box .leaf [.list sh cs]] ∧
   vs = [.own 0 0 l.length, .fn g [.ptr 1 0 0], i64 (keepD d (l.take j)).length, i64 j]) rfl ?_ ?_
  ·refine Canon.mk [] rfl ⟨_, i0 + 1, by omega, by omega, rfl, ?_, ?_⟩
   ·rw [hk1, List.length_take, Nat.min_eq_left (by omega), List.take_append_drop]
   ·rw [hk1, List.length_take, Nat.min_eq_left (by omega)]; rfl
  rintro m vs H ⟨j, hij, hj, rfl, rfl, rfl⟩
  by_cases hjl : j < l.length
  ·have hlt := hlt hij hj
   have hkt := keepD_take d hjl
   obtain ⟨K, hK⟩ : ∃ K, K = keepD d (l.take j) := ⟨_, rfl⟩
   rw [← hK] at hlt hkt ⊢
   have hc := hg K l[j] (List.getElem_mem hjl)
   obtain ⟨R, hR⟩ : ∃ R, R = K ++ l.drop K.length := ⟨_, rfl⟩
   have hrl : R.length = l.length := by rw [hR, List.length_append, List.length_drop]; omega
   have hjR : j < R.length := by omega
   have hget : R[j] = l[j] := by
    simp only [hR]
    rw [List.getElem_append_right (by omega), List.getElem_drop]
    congr 1; omega
   have hKR : K.length < R.length := by omega
   rw [← hR]
   cases hp : d K l[j] with
   | true =>
    rw [hp] at hc hkt
    rw [if_pos rfl] at hkt
    try rw [if_pos rfl] at hc
    rw [← hget] at hc
    refine ND.yes (by omega) ?_
    refine NP.mk (by (simp only [zLm, zLa, zLr, zLc, zLn, zLt, zLd]; omega)) ?_
    refine NG.map0N (by omega) ?_
    refine NCall.subSame [1] (hc) ?_
    refine NW.w ?_
    refine Canon.mk [] rfl ⟨l.length - (j + 1), by omega, j + 1, by omega, by omega, rfl, ?_, ?_⟩
    ·rw [hkt, ← hR]
    ·rw [hkt]; rfl
   | false =>
    rw [hp] at hc hkt
    rw [if_neg (by simp)] at hkt
    try rw [if_neg (by simp)] at hc
    rw [← hget] at hc
    refine ND.yes (by omega) ?_
    refine NP.mk (by (simp only [zLm, zLa, zLr, zLc, zLn, zLt, zLd]; omega)) ?_
    refine NG.map0N (by omega) ?_
    refine NCall.subSame [1] (hc) ?_
    refine NP.mk (by (simp only [zLm, zLa, zLr, zLc, zLn, zLt, zLd]; omega)) ?_
    refine NG.map0N (by omega) ?_
    refine NW.w ?_
    refine NW.w ?_
    refine Canon.mk [] rfl ⟨l.length - (j + 1), by omega, j + 1, by omega, by omega, rfl, ?_, ?_⟩
    ·rw [hkt]
     have : (R.map itemA).set (0 + K.length) (itemA R[j]) = ((K ++ [l[j]]) ++ l.drop (K ++ [l[j]]).length).map itemA := by
      rw [hget, Nat.zero_add, ← List.map_set, hR, List.set_append, if_neg (by omega), Nat.sub_self, List.drop_eq_getElem_cons (by omega), List.set_cons_zero, List.append_assoc, List.length_append]
      rfl
     rw [← this]
     try rw [← hget]
     rfl
    ·rw [hkt, List.length_append]; rfl
  ·have : j = l.length := by omega
   subst this
   have hlt := hlt hij hj
   rw [List.take_length] at hlt ⊢
   obtain ⟨K, hK⟩ : ∃ K, K = keepD d l := ⟨_, rfl⟩
   rw [← hK] at hlt ⊢
   have hrl : (K ++ l.drop K.length).length = l.length := by rw [List.length_append, List.length_drop]; omega
   refine ND.no (by omega) ?_
   refine NSl.mid (by omega) ?_
   refine NP.mk (by (simp only [zLm, zLa, zLr, zLc, zLn, zLt, zLd]; omega)) ?_
   refine NRet.mk [] rfl ⟨.refl _, ?_⟩
   rw [Int.toNat_natCast, Nat.zero_add, List.map_append, List.take_left' (by simp), List.drop_eq_nil_of_le (by rw [List.length_append, List.length_map, List.length_map, List.length_drop]; omega), List.append_nil]
   rfl
 ·have hn : ∀ (j : Nat) (h : j < l.length), d (l.take j) l[j] = false := fun j h => by simpa using fun k => hex ⟨j, h, k⟩
  have hk : keepD d l = l := by
   have := keepD_none d (l := l) (i := l.length) (Nat.le_refl _) (fun j h _ => hn j h)
   rwa [List.take_length] at this
  have k1 := indexM_none g sh cs d l hl hg hn
  rw [hk]
  refine NCall.atA (k1) ?_
  refine ND.yes (by omega) ?_
  refine NRet.mk [] rfl ⟨.refl _, ?_⟩
  rw [Nat.sub_self, List.replicate_zero, List.append_nil]
end Go.Bv
namespace Go.Bv
set_option linter.unusedSimpArgs false
set_option linter.unusedVariables false
set_option maxHeartbeats 4000000
set_option maxRecDepth 20000
open Go Go.Proofs
theorem indexA_none (g : Nat) (sh : Sh) (cs : List AV) (d : List Item → Item → Bool) (l : List Item) (hl : l.length ≤ 2 ^ 38) (hg : ∀ k x, ACalls Tryz.prog g [itemA x, .ptr 0 0 0] [.row .box .leaf [.list sh cs]] (.bool (d k x)) [.row .box .leaf [.list sh cs]])
  (hn : ∀ (j : Nat) (h : j < l.length), d (l.take j) l[j] = false) : ACalls Tryz.prog Nm.slices_IndexFunc_api_Item_api_Item [.own 0 0 l.length, .fn g [.ptr 1 0 0]] [.row .vrow (.agg 8) (l.map itemA), .row .box .leaf [.list sh cs]] (i64 (-1)) [.row .vrow (.agg 8) (l.map itemA), .row .box .leaf [.list sh cs]] := by
 refine ACalls_of tab (dr_snd tab mixed) Nm.slices_IndexFunc_api_Item_api_Item_h rfl (by kernel_rfl) (Nat.le_of_ble_eq_true rfl) rfl ?_
 refine NLoop.mk [] [0, 1, 6, 7, 8] (fun m vs H => ∃ i, i ≤ l.length ∧ m = l.length - i ∧ H = [.row .vrow (.agg 8) (l.map itemA), .row .box .leaf [.list sh cs]] ∧ vs = [.own 0 0 l.length, .fn g [.ptr 1 0 0], .own 0 0 l.length, i64 l.length, i64 i]) rfl ?_ ?_
 ·exact Canon.mk [] rfl ⟨l.length, 0, Nat.zero_le _, rfl, rfl, rfl⟩
 ·rintro m vs H ⟨i, hi, rfl, rfl, rfl⟩
  by_cases hil : i < l.length
  ·have hc := hg (l.take i) l[i]
   rw [hn i hil] at hc
   try rw [if_neg (by simp), ← List.take_succ_eq_append_getElem hil] at hc
   refine ND.yes (by omega) ?_
   refine NP.mk (by (simp only [zLm, zLa, zLr, zLc, zLn, zLt, zLd]; omega)) ?_
   refine NG.map0N (by omega) ?_
   refine NCall.subSame [1] (hc) ?_
   refine NW.w ?_
   exact Canon.mk [] rfl ⟨l.length - (i + 1), by omega, i + 1, by omega, rfl, rfl, rfl⟩
  ·have : i = l.length := by omega
   subst this
   try rw [List.take_length]
   refine ND.no (by omega) ?_
   exact NRet.mk [] rfl ⟨.refl _, rfl⟩
theorem indexA_some (g : Nat) (sh : Sh) (cs : List AV) (d : List Item → Item → Bool) (l : List Item) (hl : l.length ≤ 2 ^ 38) (hg : ∀ k x, ACalls Tryz.prog g [itemA x, .ptr 0 0 0] [.row .box .leaf [.list sh cs]] (.bool (d k x)) [.row .box .leaf [.list sh cs]])
  (i0 : Nat) (h0 : i0 < l.length) (hn : ∀ (j : Nat) (h : j < l.length), j < i0 → d (l.take j) l[j] = false) (hd : d (l.take i0) l[i0] = true) : ACalls Tryz.prog Nm.slices_IndexFunc_api_Item_api_Item [.own 0 0 l.length, .fn g [.ptr 1 0 0]] [.row .vrow (.agg 8) (l.map itemA), .row .box .leaf [.list sh cs]] (i64 i0) [.row .vrow (.agg 8) (l.map itemA), .row .box .leaf [.list sh cs]] := by
 refine ACalls_of tab (dr_snd tab mixed) Nm.slices_IndexFunc_api_Item_api_Item_h rfl (by kernel_rfl) (Nat.le_of_ble_eq_true rfl) rfl ?_
 refine NLoop.mk [] [0, 1, 6, 7, 8] (fun m vs H => ∃ i, i ≤ i0 ∧ m = l.length - i ∧ H = [.row .vrow (.agg 8) (l.map itemA), .row .box .leaf [.list sh cs]] ∧ vs = [.own 0 0 l.length, .fn g [.ptr 1 0 0], .own 0 0 l.length, i64 l.length, i64 i]) rfl ?_ ?_
 ·exact Canon.mk [] rfl ⟨l.length, 0, Nat.zero_le _, rfl, rfl, rfl⟩
 ·rintro m vs H ⟨i, hi, rfl, rfl, rfl⟩
  have hil : i < l.length := by omega
  have hc := hg (l.take i) l[i]
  by_cases hii : i = i0
  ·subst hii
   rw [hd] at hc
   try rw [if_pos rfl] at hc
   refine ND.yes (by omega) ?_
   refine NP.mk (by (simp only [zLm, zLa, zLr, zLc, zLn, zLt, zLd]; omega)) ?_
   refine NG.map0N (by omega) ?_
   refine NCall.subSame [1] (hc) ?_
   exact NRet.mk [] rfl ⟨.refl _, rfl⟩
  ·rw [hn i hil (by omega)] at hc
   try rw [if_neg (by simp), ← List.take_succ_eq_append_getElem hil] at hc
   refine ND.yes (by omega) ?_
   refine NP.mk (by (simp only [zLm, zLa, zLr, zLc, zLn, zLt, zLd]; omega)) ?_
   refine NG.map0N (by omega) ?_
   refine NCall.subSame [1] (hc) ?_
   refine NW.w ?_
   exact Canon.mk [] rfl ⟨l.length - (i + 1), by omega, i + 1, by omega, rfl, rfl, rfl⟩
theorem deleteA_walk (g : Nat) (sh : Sh) (cs : List AV) (d : List Item → Item → Bool) (l : List Item) (hl : l.length ≤ 2 ^ 38) (hg : ∀ k x, ACalls Tryz.prog g [itemA x, .ptr 0 0 0] [.row .box .leaf [.list sh cs]] (.bool (d k x)) [.row .box .leaf [.list sh cs]]) :
  ACalls Tryz.prog Nm.slices_DeleteFunc_api_Item_api_Item [.own 0 0 l.length, .fn g [.ptr 1 0 0]] [.row .vrow (.agg 8) (l.map itemA), .row .box .leaf [.list sh cs]] (.own 0 0 (keepD d l).length)
   [.row .vrow (.agg 8) ((keepD d l).map itemA ++ List.replicate (l.length - (keepD d l).length) zI), .row .box .leaf [.list sh cs]] := by
 refine ACalls_of tab (dr_snd tab mixed) Nm.slices_DeleteFunc_api_Item_api_Item_h rfl (by kernel_rfl) (Nat.le_of_ble_eq_true rfl) rfl ?_
 by_cases hex : ∃ i, ∃ h : i < l.length, d (l.take i) l[i] = true
 ·obtain ⟨i0, ⟨h0, hd⟩, hmin⟩ := least_ex hex
  have hn : ∀ (j : Nat) (h : j < l.length), j < i0 → d (l.take j) l[j] = false := fun j h hj => by simpa using fun k => hmin j hj ⟨h, k⟩
  have hk0 := keepD_none d (l := l) (i := i0) (by omega) hn
  have hk1 : keepD d (l.take (i0 + 1)) = l.take i0 := by rw [keepD_take d h0, hk0, hd, if_pos rfl]
  have hlt : ∀ {j : Nat}, i0 < j → j ≤ l.length → (keepD d (l.take j)).length < j := fun {j} => keepD_lt d h0 (by rw [hk0, hd])
  have k1 := indexA_some g sh cs d l hl hg i0 h0 hn hd
  refine NCall.atA (k1) ?_
  refine ND.no (by omega) ?_
  refine NW.w ?_
  refine NLoop.mk [] [0, 1, 5, 6] (fun m vs H => ∃ j, i0 < j ∧ j ≤ l.length ∧ m = l.length - j ∧ H = [.row .vrow (.agg 8) ((keepD d (l.take j) ++ l.drop (keepD d (l.take j)).length).map itemA), .row .box .leaf [.list sh cs]] ∧
   vs = [.own 0 0 l.length, .fn g [.ptr 1 0 0], i64 (keepD d (l.take j)).length, i64 j]) rfl ?_ ?_
  ·refine Canon.mk [] rfl ⟨_, i0 + 1, by omega, by omega, rfl, ?_, ?_⟩
   ·rw [hk1, List.length_take, Nat.min_eq_left (by omega), List.take_append_drop]
   ·rw [hk1, List.length_take, Nat.min_eq_left (by omega)]; rfl
  rintro m vs H ⟨j, hij, hj, rfl, rfl, rfl⟩
  by_cases hjl : j < l.length
  ·have hlt := hlt hij hj
   have hkt := keepD_take d hjl
   obtain ⟨K, hK⟩ : ∃ K, K = keepD d (l.take j) := ⟨_, rfl⟩
   rw [← hK] at hlt hkt ⊢
   have hc := hg K l[j]
   obtain ⟨R, hR⟩ : ∃ R, R = K ++ l.drop K.length := ⟨_, rfl⟩
   have hrl : R.length = l.length := by rw [hR, List.length_append, List.length_drop]; omega
   have hjR : j < R.length := by omega
   have hget : R[j] = l[j] := by
    simp only [hR]
    rw [List.getElem_append_right (by omega), List.getElem_drop]
    congr 1; omega
   have hKR : K.length < R.length := by omega
   rw [← hR]
   cases hp : d K l[j] with
   | true =>
    rw [hp] at hc hkt
    rw [if_pos rfl] at hkt
    try rw [if_pos rfl] at hc
    rw [← hget] at hc
    refine ND.yes (by omega) ?_
    refine NP.mk (by (simp only [zLm, zLa, zLr, zLc, zLn, zLt, zLd]; omega)) ?_
    refine NG.map0N (by omega) ?_
    refine NCall.subSame [1] (hc) ?_
    refine NW.w ?_
    refine Canon.mk [] rfl ⟨l.length - (j + 1), by omega, j + 1, by omega, by omega, rfl, ?_, ?_⟩
    ·rw [hkt, ← hR]
    ·rw [hkt]; rfl
   | false =>
    rw [hp] at hc hkt
    rw [if_neg (by simp)] at hkt
    try rw [if_neg (by simp)] at hc
    rw [← hget] at hc
    refine ND.yes (by omega) ?_
    refine NP.mk (by (simp only [zLm, zLa, zLr, zLc, zLn, zLt, zLd]; omega)) ?_
    refine NG.map0N (by omega) ?_
    refine NCall.subSame [1] (hc) ?_
    refine NP.mk (by (simp only [zLm, zLa, zLr, zLc, zLn, zLt, zLd]; omega)) ?_
    refine NG.map0N (by omega) ?_
    refine NW.w ?_
    refine NW.w ?_
    refine Canon.mk [] rfl ⟨l.length - (j + 1), by omega, j + 1, by omega, by omega, rfl, ?_, ?_⟩
    ·rw [hkt]
     have : (R.map itemA).set (0 + K.length) (itemA R[j]) = ((K ++ [l[j]]) ++ l.drop (K ++ [l[j]]).length).map itemA := by
      rw [hget, Nat.zero_add, ← List.map_set, hR, List.set_append, if_neg (by omega), Nat.sub_self, List.drop_eq_getElem_cons (by omega), List.set_cons_zero, List.append_assoc, List.length_append]
      rfl
     rw [← this]
     try rw [← hget]
     rfl
    ·rw [hkt, List.length_append]; rfl
  ·have : j = l.length := by omega
   subst this
   have hlt := hlt hij hj
   rw [List.take_length] at hlt ⊢
   obtain ⟨K, hK⟩ : ∃ K, K = keepD d l := ⟨_, rfl⟩
   rw [← hK] at hlt ⊢
   have hrl : (K ++ l.drop K.length).length = l.length := by rw [List.length_append, List.length_drop]; omega
   refine ND.no (by omega) ?_
   refine NSl.mid (by omega) ?_
   refine NP.mk (by (simp only [zLm, zLa, zLr, zLc, zLn, zLt, zLd]; omega)) ?_
   refine NRet.mk [] rfl ⟨.refl _, ?_⟩
   rw [Int.toNat_natCast, Nat.zero_add, List.map_append, List.take_left' (by simp), List.drop_eq_nil_of_le (by rw [List.length_append, List.length_map, List.length_map, List.length_drop]; omega), List.append_nil]
   rfl
 ·have hn : ∀ (j : Nat) (h : j < l.length), d (l.take j) l[j] = false := fun j h => by simpa using fun k => hex ⟨j, h, k⟩
  have hk : keepD d l = l := by
   have := keepD_none d (l := l) (i := l.length) (Nat.le_refl _) (fun j h _ => hn j h)
   rwa [List.take_length] at this
  have k1 := indexA_none g sh cs d l hl hg hn
  rw [hk]
  refine NCall.atA (k1) ?_
  refine ND.yes (by omega) ?_
  refine NRet.mk [] rfl ⟨.refl _, ?_⟩
  rw [Nat.sub_self, List.replicate_zero, List.append_nil]
def seenE (k : List Item) : List (AV × AV) := k.map fun x => (dotA x.dot, .bool true)
theorem indexB_none (g : Nat) (d : List Item → Item → Bool) (l : List Item) (hl : l.length ≤ 2 ^ 38) (hg : ∀ k x, ACalls Tryz.prog g [itemA x, .ptr 0 0 0] [.row .box .leaf [.map 1], .map (seenE k)] (.bool (d k x)) [.row .box .leaf [.map 1], .map (seenE (if d k x then k else k ++ [x]))])
  (hn : ∀ (j : Nat) (h : j < l.length), d (l.take j) l[j] = false) : ACalls Tryz.prog Nm.slices_IndexFunc_api_Item_api_Item [.own 0 0 l.length, .fn g [.ptr 1 0 0]] [.row .vrow (.agg 8) (l.map itemA), .row .box .leaf [.map 2], .map (seenE [])] (i64 (-1)) [.row .vrow (.agg 8) (l.map itemA), .row .box .leaf [.map 2], .map (seenE l)] := by
 refine ACalls_of tab (dr_snd tab mixed) Nm.slices_IndexFunc_api_Item_api_Item_h rfl (by kernel_rfl) (Nat.le_of_ble_eq_true rfl) rfl ?_
 refine NLoop.mk [] [0, 1, 6, 7, 8] (fun m vs H => ∃ i, i ≤ l.length ∧ m = l.length - i ∧ H = [.row .vrow (.agg 8) (l.map itemA), .row .box .leaf [.map 2], .map (seenE (l.take i))] ∧ vs = [.own 0 0 l.length, .fn g [.ptr 1 0 0], .own 0 0 l.length, i64 l.length, i64 i]) rfl ?_ ?_
 ·exact Canon.mk [] rfl ⟨l.length, 0, Nat.zero_le _, rfl, rfl, rfl⟩
 ·rintro m vs H ⟨i, hi, rfl, rfl, rfl⟩
  by_cases hil : i < l.length
  ·have hc := hg (l.take i) l[i]
   rw [hn i hil] at hc
   try rw [if_neg (by simp), ← List.take_succ_eq_append_getElem hil] at hc
   refine ND.yes (by omega) ?_
   refine NP.mk (by (simp only [zLm, zLa, zLr, zLc, zLn, zLt, zLd]; omega)) ?_
   refine NG.map0N (by omega) ?_
   refine NCall.subA [1, 2] (hc) ?_
   refine NW.w ?_
   exact Canon.mk [] rfl ⟨l.length - (i + 1), by omega, i + 1, by omega, rfl, rfl, rfl⟩
  ·have : i = l.length := by omega
   subst this
   try rw [List.take_length]
   refine ND.no (by omega) ?_
   exact NRet.mk [] rfl ⟨.refl _, rfl⟩
theorem indexB_some (g : Nat) (d : List Item → Item → Bool) (l : List Item) (hl : l.length ≤ 2 ^ 38) (hg : ∀ k x, ACalls Tryz.prog g [itemA x, .ptr 0 0 0] [.row .box .leaf [.map 1], .map (seenE k)] (.bool (d k x)) [.row .box .leaf [.map 1], .map (seenE (if d k x then k else k ++ [x]))])
  (i0 : Nat) (h0 : i0 < l.length) (hn : ∀ (j : Nat) (h : j < l.length), j < i0 → d (l.take j) l[j] = false) (hd : d (l.take i0) l[i0] = true) : ACalls Tryz.prog Nm.slices_IndexFunc_api_Item_api_Item [.own 0 0 l.length, .fn g [.ptr 1 0 0]] [.row .vrow (.agg 8) (l.map itemA), .row .box .leaf [.map 2], .map (seenE [])] (i64 i0) [.row .vrow (.agg 8) (l.map itemA), .row .box .leaf [.map 2], .map (seenE (l.take i0))] := by
 refine ACalls_of tab (dr_snd tab mixed) Nm.slices_IndexFunc_api_Item_api_Item_h rfl (by kernel_rfl) (Nat.le_of_ble_eq_true rfl) rfl ?_
 refine NLoop.mk [] [0, 1, 6, 7, 8] (fun m vs H => ∃ i, i ≤ i0 ∧ m = l.length - i ∧ H = [.row .vrow (.agg 8) (l.map itemA), .row .box .leaf [.map 2], .map (seenE (l.take i))] ∧ vs = [.own 0 0 l.length, .fn g [.ptr 1 0 0], .own 0 0 l.length, i64 l.length, i64 i]) rfl ?_ ?_
 ·exact Canon.mk [] rfl ⟨l.length, 0, Nat.zero_le _, rfl, rfl, rfl⟩
 ·rintro m vs H ⟨i, hi, rfl, rfl, rfl⟩
  have hil : i < l.length := by omega
  have hc := hg (l.take i) l[i]
  by_cases hii : i = i0
  ·subst hii
   rw [hd] at hc
   try rw [if_pos rfl] at hc
   refine ND.yes (by omega) ?_
   refine NP.mk (by (simp only [zLm, zLa, zLr, zLc, zLn, zLt, zLd]; omega)) ?_
   refine NG.map0N (by omega) ?_
   refine NCall.subSame [1, 2] (hc) ?_
   exact NRet.mk [] rfl ⟨.refl _, rfl⟩
  ·rw [hn i hil (by omega)] at hc
   try rw [if_neg (by simp), ← List.take_succ_eq_append_getElem hil] at hc
   refine ND.yes (by omega) ?_
   refine NP.mk (by (simp only [zLm, zLa, zLr, zLc, zLn, zLt, zLd]; omega)) ?_
   refine NG.map0N (by omega) ?_
   refine NCall.subA [1, 2] (hc) ?_
   refine NW.w ?_
   exact Canon.mk [] rfl ⟨l.length - (i + 1), by omega, i + 1, by omega, rfl, rfl, rfl⟩
theorem deleteB_walk (g : Nat) (d : List Item → Item → Bool) (l : List Item) (hl : l.length ≤ 2 ^ 38) (hg : ∀ k x, ACalls Tryz.prog g [itemA x, .ptr 0 0 0] [.row .box .leaf [.map 1], .map (seenE k)] (.bool (d k x)) [.row .box .leaf [.map 1], .map (seenE (if d k x then k else k ++ [x]))]) :
  ACalls Tryz.prog Nm.slices_DeleteFunc_api_Item_api_Item [.own 0 0 l.length, .fn g [.ptr 1 0 0]] [.row .vrow (.agg 8) (l.map itemA), .row .box .leaf [.map 2], .map (seenE [])] (.own 0 0 (keepD d l).length)
   [.row .vrow (.agg 8) ((keepD d l).map itemA ++ List.replicate (l.length - (keepD d l).length) zI), .row .box .leaf [.map 2], .map (seenE (keepD d l))] := by
 refine ACalls_of tab (dr_snd tab mixed) Nm.slices_DeleteFunc_api_Item_api_Item_h rfl (by kernel_rfl) (Nat.le_of_ble_eq_true rfl) rfl ?_
 by_cases hex : ∃ i, ∃ h : i < l.length, d (l.take i) l[i] = true
 ·obtain ⟨i0, ⟨h0, hd⟩, hmin⟩ := least_ex hex
  have hn : ∀ (j : Nat) (h : j < l.length), j < i0 → d (l.take j) l[j] = false := fun j h hj => by simpa using fun k => hmin j hj ⟨h, k⟩
  have hk0 := keepD_none d (l := l) (i := i0) (by omega) hn
  have hk1 : keepD d (l.take (i0 + 1)) = l.take i0 := by rw [keepD_take d h0, hk0, hd, if_pos rfl]
  have hlt : ∀ {j : Nat}, i0 < j → j ≤ l.length → (keepD d (l.take j)).length < j := fun {j} => keepD_lt d h0 (by rw [hk0, hd])
  have k1 := indexB_some g d l hl hg i0 h0 hn hd
  refine NCall.atA (k1) ?_
  refine ND.no (by omega) ?_
  refine NW.w ?_
  refine NLoop.mk [] [0, 1, 5, 6] (fun m vs H => ∃ j, i0 < j ∧ j ≤ l.length ∧ m = l.length - j ∧ H = [.row .vrow (.agg 8) ((keepD d (l.take j) ++ l.drop (keepD d (l.take j)).length).map itemA), .row .box .leaf [.map 2], .map (seenE (keepD d (l.take j)))] ∧
   vs = [.own 0 0 l.length, .fn g [.ptr 1 0 0], i64 (keepD d (l.take j)).length, i64 j]) rfl ?_ ?_
  ·refine Canon.mk [] rfl ⟨_, i0 + 1, by omega, by omega, rfl, ?_, ?_⟩
   ·rw [hk1, List.length_take, Nat.min_eq_left (by omega), List.take_append_drop]
   ·rw [hk1, List.length_take, Nat.min_eq_left (by omega)]; rfl
  rintro m vs H ⟨j, hij, hj, rfl, rfl, rfl⟩
  by_cases hjl : j < l.length
  ·have hlt := hlt hij hj
   have hkt := keepD_take d hjl
   obtain ⟨K, hK⟩ : ∃ K, K = keepD d (l.take j) := ⟨_, rfl⟩
   rw [← hK] at hlt hkt ⊢
   have hc := hg K l[j]
   obtain ⟨R, hR⟩ : ∃ R, R = K ++ l.drop K.length := ⟨_, rfl⟩
   have hrl : R.length = l.length := by rw [hR, List.length_append, List.length_drop]; omega
   have hjR : j < R.length := by omega
   have hget : R[j] = l[j] := by
    simp only [hR]
    rw [List.getElem_append_right (by omega), List.getElem_drop]
    congr 1; omega
   have hKR : K.length < R.length := by omega
   rw [← hR]
   cases hp : d K l[j] with
   | true =>
    rw [hp] at hc hkt
    rw [if_pos rfl] at hkt
    try rw [if_pos rfl] at hc
    rw [← hget] at hc
    refine ND.yes (by omega) ?_
    refine NP.mk (by (simp only [zLm, zLa, zLr, zLc, zLn, zLt, zLd]; omega)) ?_
    refine NG.map0N (by omega) ?_
    refine NCall.subSame [1, 2] (hc) ?_
    refine NW.w ?_
    refine Canon.mk [] rfl ⟨l.length - (j + 1), by omega, j + 1, by omega, by omega, rfl, ?_, ?_⟩
    ·rw [hkt, ← hR]
    ·rw [hkt]; rfl
   | false =>
    rw [hp] at hc hkt
    rw [if_neg (by simp)] at hkt
    try rw [if_neg (by simp)] at hc
    rw [← hget] at hc
    refine ND.yes (by omega) ?_
    refine NP.mk (by (simp only [zLm, zLa, zLr, zLc, zLn, zLt, zLd]; omega)) ?_
    refine NG.map0N (by omega) ?_
    refine NCall.subA [1, 2] (hc) ?_
    refine NP.mk (by (simp only [zLm, zLa, zLr, zLc, zLn, zLt, zLd]; omega)) ?_
    refine NG.map0N (by omega) ?_
    refine NW.w ?_
    refine NW.w ?_
    refine Canon.mk [] rfl ⟨l.length - (j + 1), by omega, j + 1, by omega, by omega, rfl, ?_, ?_⟩
    ·rw [hkt]
     have : (R.map itemA).set (0 + K.length) (itemA R[j]) = ((K ++ [l[j]]) ++ l.drop (K ++ [l[j]]).length).map itemA := by
      rw [hget, Nat.zero_add, ← List.map_set, hR, List.set_append, if_neg (by omega), Nat.sub_self, List.drop_eq_getElem_cons (by omega), List.set_cons_zero, List.append_assoc, List.length_append]
      rfl
     rw [← this]
     try rw [← hget]
     rfl
    ·rw [hkt, List.length_append]; rfl
  ·have : j = l.length := by omega
   subst this
   have hlt := hlt hij hj
   rw [List.take_length] at hlt ⊢
   obtain ⟨K, hK⟩ : ∃ K, K = keepD d l := ⟨_, rfl⟩
   rw [← hK] at hlt ⊢
   have hrl : (K ++ l.drop K.length).length = l.length := by rw [List.length_append, List.length_drop]; omega
   refine ND.no (by omega) ?_
   refine NSl.mid (by omega) ?_
   refine NP.mk (by (simp only [zLm, zLa, zLr, zLc, zLn, zLt, zLd]; omega)) ?_
   refine NRet.mk [] rfl ⟨.refl _, ?_⟩
   rw [Int.toNat_natCast, Nat.zero_add, List.map_append, List.take_left' (by simp), List.drop_eq_nil_of_le (by rw [List.length_append, List.length_map, List.length_map, List.length_drop]; omega), List.append_nil]
   rfl
 ·have hn : ∀ (j : Nat) (h : j < l.length), d (l.take j) l[j] = false := fun j h => by simpa using fun k => hex ⟨j, h, k⟩
  have hk : keepD d l = l := by
   have := keepD_none d (l := l) (i := l.length) (Nat.le_refl _) (fun j h _ => hn j h)
   rwa [List.take_length] at this
  have k1 := indexB_none g d l hl hg hn
  rw [hk]
  refine NCall.atA (k1) ?_
  refine ND.yes (by omega) ?_
  refine NRet.mk [] rfl ⟨.refl _, ?_⟩
  rw [Nat.sub_self, List.replicate_zero, List.append_nil]
end Go.Bv
namespace Go.Bv
set_option linter.unusedSimpArgs false
set_option linter.unusedVariables false
set_option maxHeartbeats 4000000
set_option maxRecDepth 20000
open Go Go.Proofs
theorem keyEq_dot (a b : Dot) : keyEq [0, 0, 0] (dotA a) (dotA b) = some (decide (a = b)) := by
 rw [dot_dec]
 simp only [keyEq, dotA, dotC, allEqA, leafEqA, i64, kindBeq, Bool.and_true]
theorem seenE_get (k : List Item) (i : Nat) : (seenE k)[i]? = (k[i]?).map fun x => (dotA x.dot, AV.bool true) := by unfold seenE; rw [List.getElem?_map]
/-- Where a dot stands in the map of those seen. -/
theorem NFind.seen {k : List Item} {d : Dot} {T : Nat → AV → Prop} {E : Prop} (h1 : d ∈ k.map Item.dot → ∀ i, (seenE k)[i]? = some (dotA d, .bool true) → T i (.bool true)) (h2 : d ∉ k.map Item.dot → E) : NFind [0, 0, 0] (seenE k) (dotA d) T E := by
 by_cases h : d ∈ k.map Item.dot
 ·have hex : ∃ i : Nat, ∃ x : Item, k[i]? = some x ∧ x.dot = d := by
   obtain ⟨x, hx, rfl⟩ := List.mem_map.1 h
   obtain ⟨i, hi⟩ := List.getElem?_of_mem hx
   exact ⟨i, x, hi, rfl⟩
  obtain ⟨i, ⟨x, hx, rfl⟩, hmin⟩ := least_ex hex
  have hi : (seenE k)[i]? = some (dotA x.dot, .bool true) := by rw [seenE_get, hx]; rfl
  refine .hit i (dotA x.dot) (.bool true) hi (by rw [keyEq_dot]; simp) (fun j hj k' v' hjj => ?_) (h1 h i hi)
  rw [seenE_get] at hjj
  cases hkj : k[j]? with
  | none => rw [hkj] at hjj; simp at hjj
  | some y =>
   rw [hkj] at hjj
   simp only [Option.map_some, Option.some.injEq, Prod.mk.injEq] at hjj
   rw [← hjj.1, keyEq_dot, decide_eq_false]
   exact fun e => hmin j hj ⟨y, hkj, e.symm⟩
 ·refine .miss (fun j k' v' hjj => ?_) (h2 h)
  rw [seenE_get] at hjj
  cases hkj : k[j]? with
  | none => rw [hkj] at hjj; simp at hjj
  | some y =>
   rw [hkj] at hjj
   simp only [Option.map_some, Option.some.injEq, Prod.mk.injEq] at hjj
   rw [← hjj.1, keyEq_dot, decide_eq_false]
   exact fun e => h (List.mem_map.2 ⟨y, List.mem_of_getElem? hkj, e.symm⟩)
theorem set_same {α : Type} {l : List α} {i : Nat} {x : α} (h : l[i]? = some x) : l.set i x = l := by
 obtain ⟨hi, rfl⟩ := List.getElem?_eq_some_iff.1 h
 exact List.set_getElem_self hi
theorem normF_walk (k : List Item) (x : Item) : ACalls Tryz.prog Nm.item_Norm_1 [itemA x, .ptr 0 0 0] [.row .box .leaf [.map 1], .map (seenE k)] (.bool (hadI k x)) [.row .box .leaf [.map 1], .map (seenE (if hadI k x then k else k ++ [x]))] := by
 refine ACalls_of tab (dr_snd tab mixed) Nm.item_Norm_1_h rfl (by kernel_rfl) (Nat.le_of_ble_eq_true rfl) rfl ?_
 cases hp : hadI k x with
 | true =>
  have hm : x.dot ∈ k.map Item.dot := of_decide_eq_true hp
  skip
  refine NFind.seen (d := x.dot) (fun _ i hi => ?_) (fun h => absurd hm h)
  skip
  refine NFind.seen (d := x.dot) (fun _ i hi => ?_) (fun h => absurd hm h)
  have e1 : (seenE k).set i (dotA x.dot, .bool true) = seenE k := set_same hi
  skip
  exact NRet.mk [] rfl ⟨.refl _, by rw [if_pos rfl]; exact congrArg (fun m => [Blk.row .box .leaf [.map 1], .map m]) e1.symm⟩
 | false =>
  have hm : x.dot ∉ k.map Item.dot := of_decide_eq_false hp
  skip
  refine NFind.seen (d := x.dot) (fun h => absurd h hm) (fun _ => ?_)
  skip
  refine NFind.seen (d := x.dot) (fun h => absurd h hm) (fun _ => ?_)
  skip
  refine NRet.mk [] rfl ⟨.refl _, ?_⟩
  rw [if_neg (by simp)]
  unfold seenE
  rw [List.map_append]
  rfl
theorem without_own (l : List Item) (D : List Dot) (hl : l.length ≤ 2 ^ 38) (hD : D.length ≤ 2 ^ 40) : ACalls Tryz.prog Nm.item_Without [itemsA l, dotsA D] [] (.own 0 0 (without l D).length) [.row .vrow (.agg 8) ((without l D).map itemA ++ List.replicate (l.length - (without l D).length) zI)] := by
 refine ACalls_of tab (dr_snd tab mixed) Nm.item_Without_h rfl (by kernel_rfl) (Nat.le_of_ble_eq_true rfl) rfl ?_
 have k1 := cloneI_walk l hl
 have k2 := deleteA_walk Nm.item_Without_1 (.agg 3) (D.map dotA) (fun _ x => decide (x.dot ∈ D)) l hl (fun _ x => withoutF_walk D x hD)
 have e : keepD (fun _ x => decide (x.dot ∈ D)) l = without l D := by
  rw [keepD_filter]
  unfold without
  congr 1; funext x
  by_cases h : x.dot ∈ D <;> simp [h]
 rw [e] at k2
 refine NCall.atA (ACalls.frame (k1) rfl _) ?_
 refine NCall.subA [1, 0] (k2) ?_
 exact NRet.mk [1] rfl ⟨.refl _, rfl⟩
end Go.Bv
namespace Go.Bv
open Go Go.Proofs
def dropsE (l : List Eff) : List Dot := l.flatMap Eff.drops
theorem mem_dropsE {l : List Eff} {d : Dot} : d ∈ dropsE l ↔ ∃ e ∈ l, d ∈ e.drops := by simp [dropsE]
def rawT (X : List Item) (t : Txn) : List Item := rawL t.node t.seq X t.effs
def doI (X : List Item) (t : Txn) : List Item := doL t.node t.seq X t.effs
/-- Own dots are taken away by later effects alone: so 'not later' is 'not at all'. -/
theorem madeBy_right {n s : Int} : ∀ {es pre : List Eff}, effsOk n s (pre ++ es) = true → ∀ x, MadeBy n s es x ↔ ∃ e ∈ es, e.kind ≠ 0 ∧ x = made n s e ∧ x.dot ∉ dropsE (pre ++ es)
 | [], pre, _, x => by simp [MadeBy]
 | e :: es, pre, h, x => by
  have h' : effsOk n s ((pre ++ [e]) ++ es) = true := by rw [List.append_assoc]; exact h
  have ih := madeBy_right h' x
  have hats := ats_of h
  have hown : ∀ e' ∈ pre ++ e :: es, ownOk n s e' = true := by
   unfold effsOk at h
   rw [Bool.and_eq_true, List.all_eq_true] at h
   intro e' he'
   have := h.1 e' he'
   rw [Bool.and_eq_true] at this
   exact this.2
  have hpw := List.pairwise_append.1 hats
  have hno : ∀ e' ∈ pre ++ [e], (⟨n, s, e.at'⟩ : Dot) ∉ e'.drops := by
   intro e' he' hd
   have ho := hown e' (by
    rcases List.mem_append.1 he' with k | k
    ·exact List.mem_append_left _ k
    ·rw [List.mem_singleton.1 k]; exact List.mem_append_right _ (List.mem_cons_self ..))
   unfold ownOk at ho
   rw [List.all_eq_true] at ho
   have := of_decide_eq_true (ho _ hd)
   have hle : e'.at' ≤ e.at' := by
    rcases List.mem_append.1 he' with k | k
    ·exact Int.le_of_lt (hpw.2.2 e' k e (List.mem_cons_self ..))
    ·rw [List.mem_singleton.1 k]; exact Int.le_refl _
   exact this ⟨rfl, rfl, hle⟩
  rw [MadeBy, ih, List.append_assoc]
  constructor
  ·rintro (⟨h1, rfl, h3⟩ | ⟨e', h0, h1, h2, h3⟩)
   ·refine ⟨e, List.mem_cons_self .., h1, rfl, fun hd => ?_⟩
    obtain ⟨e', he', hd⟩ := mem_dropsE.1 hd
    rcases List.mem_append.1 he' with k | k
    ·exact hno e' (List.mem_append_left _ k) hd
    ·rcases List.mem_cons.1 k with rfl | k
     ·exact hno _ (List.mem_append_right _ (List.mem_cons_self ..)) hd
     ·exact h3 e' k hd
   ·exact ⟨e', List.mem_cons_of_mem _ h0, h1, h2, h3⟩
  ·rintro ⟨e', h0, h1, h2, h3⟩
   rcases List.mem_cons.1 h0 with rfl | h0
   ·exact .inl ⟨h1, h2, fun e2 he2 hd => h3 (mem_dropsE.2 ⟨e2, List.mem_append_right _ (List.mem_cons_of_mem _ he2), hd⟩)⟩
   ·exact .inr ⟨e', h0, h1, h2, h3⟩
theorem formed_right {t : Txn} (h : formed t = true) : effsOk t.node t.seq t.effs = true := by
 unfold formed at h
 simp only [Bool.and_eq_true] at h
 exact h.2.2.2.1
theorem formed_n {t : Txn} (h : formed t = true) : okN t := by
 unfold formed at h
 simp only [Bool.and_eq_true, decide_eq_true_eq] at h
 unfold okN
 omega
theorem mem_rawT {X : List Item} {t : Txn} (h : formed t = true) (x : Item) : x ∈ rawT X t ↔ (x ∈ X ∧ x.dot ∉ dropsE t.effs) ∨ ∃ e ∈ t.effs, e.kind ≠ 0 ∧ x = made t.node t.seq e ∧ x.dot ∉ dropsE t.effs := by
 unfold rawT
 rw [mem_rawL, madeBy_right (pre := []) (by simpa using formed_right h), List.nil_append]
 have : (∀ e ∈ t.effs, x.dot ∉ e.drops) ↔ x.dot ∉ dropsE t.effs := by
  rw [mem_dropsE]
  exact ⟨fun h ⟨e, he, hd⟩ => h e he hd, fun h e he hd => h ⟨e, he, hd⟩⟩
 rw [this]
theorem doL_keeps {n s : Int} {X : List Item} (es : List Eff) (h : norm X = X) : norm (doL n s X es) = doL n s X es := by
 by_cases he : es = []
 ·subst he; exact h
 ·rw [doL_raw he, norm_idem]
end Go.Bv
namespace Go.Bv
open Go Go.Proofs
def doT (s : Store) (t : Txn) : Store := ⟨next s.heard t, doI s.items t⟩
def okT (t : Txn) : Bool := formed t
def allS (s : Store) (l : List Txn) : Store × List Txn := ((takeT s.heard (l.filter okT)).1.foldl doT s, (takeT s.heard (l.filter okT)).1)
theorem foldl_doT : ∀ (l : List Txn) (s : Store), l.foldl doT s = ⟨nexts s.heard l, l.foldl doI s.items⟩
 | [], _ => rfl
 | t :: l, s => by rw [List.foldl_cons, foldl_doT l]; rfl
theorem allS_eq (s : Store) (l : List Txn) : allS s l = (⟨(takeT s.heard (l.filter okT)).2, (takeT s.heard (l.filter okT)).1.foldl doI s.items⟩, (takeT s.heard (l.filter okT)).1) := by
 unfold allS
 rw [foldl_doT, takeT_nexts]
end Go.Bv
namespace Go.Bv
open Go Go.Proofs
def heldB (v : List Int) (x : Item) : Bool := itemOk x && hasB v x.dot.node x.dot.seq
def soundS (s : Store) : Bool := decide (s.heard.length ≤ 8) && (vecOk s.heard && (decide (norm s.items = s.items) && s.items.all (heldB s.heard)))
theorem soundS_iff {s : Store} : soundS s = true ↔ s.heard.length ≤ 8 ∧ (trim s.heard = s.heard ∧ ∀ n ∈ s.heard, n ≤ 1073741824) ∧ norm s.items = s.items ∧ ∀ x ∈ s.items, itemOk x = true ∧ hasB s.heard x.dot.node x.dot.seq = true := by
 unfold soundS vecOk heldB
 simp only [Bool.and_eq_true, decide_eq_true_eq, List.all_eq_true]
theorem trim_le {w : List Int} {m : Int} (h : ∀ i, vat w i ≤ m) : ∀ n ∈ trim w, n ≤ m := fun n hn => by
 obtain ⟨i, hi, rfl⟩ := List.getElem_of_mem hn
 have := h i
 rw [← vat_trim, vat_in hi] at this
 omega
theorem vat_le' {v : List Int} {m : Int} (h : ∀ x ∈ v, x ≤ m) (hm : 0 ≤ m) (i : Nat) : vat v i ≤ m := by
 rcases Nat.lt_or_ge i v.length with hi | hi
 ·rw [vat_in hi]
  have := h _ (List.getElem_mem hi); omega
 ·rw [vat_out hi]; exact hm
theorem next_len8 {v : List Int} {t : Txn} (hv : v.length ≤ 8) : (next v t).length ≤ 8 := by
 by_cases ho : okN t
 ·rw [next_ok ho]
  have h1 := trim_len (vset v t.node.toNat t.seq)
  have h2 : (vset v t.node.toNat t.seq).length ≤ 8 := by
   unfold vset
   rw [List.length_set, List.length_append, List.length_replicate]
   unfold okN at ho
   omega
  omega
 ·rw [next_bad ho]
  have := trim_len v
  omega
theorem next_le {v : List Int} {t : Txn} (hv : ∀ x ∈ v, x ≤ 1073741824) : ∀ x ∈ next v t, x ≤ 1073741824 := by
 have h := vat_le' hv (by decide)
 by_cases ho : okN t
 ·rw [next_ok ho]
  refine trim_le fun i => ?_
  rw [vat_vset _ _ _ ho.2.2.1]
  split
  ·exact ho.2.2.2
  ·exact h i
 ·rw [next_bad ho]
  exact trim_le h
theorem hasB_mono {v w : List Int} (h : ∀ i, vat v i ≤ vat w i) {a b : Int} (ha : hasB v a b = true) : hasB w a b = true := by
 unfold hasB at *
 have := vatI_mono h a
 have := of_decide_eq_true ha
 exact decide_eq_true (by omega)
theorem made_ok {n s : Int} {e : Eff} {l : List Eff} (h : effsOk n s l = true) (he : e ∈ l) (hk : e.kind ≠ 0) : itemOk (made n s e) = true := by
 unfold effsOk at h
 rw [Bool.and_eq_true, List.all_eq_true] at h
 have := h.1 e he
 rw [Bool.and_eq_true] at this
 have h2 := this.1
 unfold effOk at h2
 rw [Bool.and_eq_true, if_neg hk] at h2
 exact h2.2
theorem formed_len {t : Txn} (h : formed t = true) : t.effs.length ≤ 8 := by
 unfold formed at h
 simp only [Bool.and_eq_true, decide_eq_true_eq] at h
 omega
theorem formed_seq {t : Txn} (h : formed t = true) : 1 ≤ t.seq ∧ 0 ≤ t.node ∧ t.node < 8 := by
 unfold formed at h
 simp only [Bool.and_eq_true, decide_eq_true_eq] at h
 omega
theorem do_sound {s : Store} {t : Txn} (hs : soundS s = true) (hf : formed t = true) (hr : ready s.heard t = true) : soundS (doT s t) = true := by
 obtain ⟨h1, ⟨h2, h3⟩, h4, h5⟩ := soundS_iff.1 hs
 refine soundS_iff.2 ⟨next_len8 h1, ⟨trim_next _ _, next_le h3⟩, doL_keeps t.effs h4, fun x hx => ?_⟩
 have hold : ∀ x ∈ s.items, itemOk x = true ∧ hasB (next s.heard t) x.dot.node x.dot.seq = true := fun x hx => ⟨(h5 x hx).1, hasB_mono (next_mono hr) (h5 x hx).2⟩
 by_cases he : t.effs = []
 ·refine hold x ?_
  have : (doT s t).items = s.items := by show doL _ _ _ t.effs = _; rw [he]; rfl
  rwa [this] at hx
 ·have hx : x ∈ doL t.node t.seq s.items t.effs := hx
  rw [doL_raw he] at hx
  rcases (mem_rawT hf x).1 (norm_mem hx) with ⟨h, _⟩ | ⟨e, h6, h7, rfl, _⟩
  ·exact hold x h
  ·refine ⟨made_ok (formed_right hf) h6 h7, ?_⟩
   have hn := formed_n hf
   have hq := formed_seq hf
   show hasB (next s.heard t) t.node t.seq = true
   unfold hasB
   refine decide_eq_true ⟨hq.1, ?_⟩
   unfold vatI
   rw [if_neg (by omega), vat_next, if_pos ⟨hn, rfl⟩]
   exact Int.le_refl _
theorem done_sound : ∀ (l : List Txn) {s : Store}, soundS s = true → chain s.heard l = true → (∀ t ∈ l, formed t = true) → soundS (l.foldl doT s) = true ∧ (l.foldl doT s).items.length ≤ s.items.length + 8 * l.length
 | [], _, h, _, _ => ⟨h, by simp⟩
 | t :: l, s, h, hc, hf => by
  obtain ⟨hr, hc'⟩ := (chain_cons _ t l).1 hc
  have ht := hf t (List.mem_cons_self ..)
  obtain ⟨h1, h2⟩ := done_sound l (s := doT s t) (do_sound h ht hr) hc' fun t' h' => hf t' (List.mem_cons_of_mem _ h')
  refine ⟨h1, ?_⟩
  have h3 := doL_len (n := t.node) (s := t.seq) t.effs s.items
  have h4 := formed_len ht
  have h5 : (doT s t).items = doL t.node t.seq s.items t.effs := rfl
  rw [h5] at h2
  rw [List.foldl_cons, List.length_cons]
  omega
theorem okT_mem {l : List Txn} : ∀ t ∈ l.filter okT, formed t = true := fun _ ht => (List.mem_filter.1 ht).2
theorem done_formed {v : List Int} {l : List Txn} : ∀ t ∈ (takeT v (l.filter okT)).1, formed t = true := fun t ht => okT_mem t (takeT_mem ht)
theorem all_sound {s : Store} (h : soundS s = true) (l : List Txn) : soundS (allS s l).1 = true ∧ (allS s l).2.length ≤ l.length ∧ (allS s l).1.items.length ≤ s.items.length + 8 * (allS s l).2.length := by
 obtain ⟨h1, h2⟩ := done_sound _ h (takeT_chain s.heard (l.filter okT)) done_formed
 have h3 := takeT_len s.heard (l.filter okT)
 have h4 := List.length_filter_le okT l
 exact ⟨h1, by unfold allS; simp only; omega, h2⟩
end Go.Bv
namespace Go.Bv
set_option linter.unusedSimpArgs false
set_option linter.unusedVariables false
set_option maxHeartbeats 4000000
set_option maxRecDepth 20000
open Go Go.Proofs
open Go.Sort (swp insInner insOuter insertionSort)
theorem ltI_iff {x y : Item} : ltI x y = true ↔ cmpIt x y < 0 := by unfold ltI; rw [decide_eq_true_eq, cmpIt_lt]
theorem getA {l : List Item} {i : Nat} (h : i < l.length) : l.toArray[i]! = l[i] := by simp [h]
/-- Two places change. -/
def swpL (l : List Item) (i j : Nat) (hi : i < l.length) (hj : j < l.length) : List Item := (l.set i l[j]).set j l[i]
theorem swpL_len {l : List Item} {i j : Nat} (hi : i < l.length) (hj : j < l.length) : (swpL l i j hi hj).length = l.length := by simp [swpL]
theorem swpL_eq {l : List Item} {i j : Nat} (hi : i < l.length) (hj : j < l.length) : swp l.toArray i j = (swpL l i j hi hj).toArray := by
 unfold swp swpL
 rw [getA hi, getA hj]
 simp
theorem swpL_row {l : List Item} {i j : Nat} (hi : i < l.length) (hj : j < l.length) : ((l.map itemA).set i (itemA l[j])).set j (itemA l[i]) = (swpL l i j hi hj).map itemA := by
 unfold swpL
 rw [List.map_set, List.map_set]
theorem insInner_stop {a j : Nat} {d : Array Item} (h : ¬ a < j ∨ ∃ k, j = k + 1 ∧ ltI d[k + 1]! d[k]! = false) : insInner ltI a j d = d := by
 cases j with
 | zero => rfl
 | succ k =>
  rw [insInner, if_neg]
  rcases h with h | ⟨k', h1, h2⟩
  ·simp; omega
  ·obtain rfl : k' = k := by omega
   simp [h2]
theorem insInner_go {a k : Nat} {d : Array Item} (h : a < k + 1) (hl : ltI d[k + 1]! d[k]! = true) : insInner ltI a (k + 1) d = insInner ltI a k (swp d (k + 1) k) := by
 rw [insInner, if_pos (by simp [hl]; omega)]
theorem insertion_walk (l : List Item) (a b : Nat) (hb : b ≤ l.length) (ha : a ≤ l.length) (hl : l.length ≤ 2 ^ 40) : ACalls Tryz.prog Nm.slices_insertionSortCmpFunc_api_Item [.own 0 0 l.length, i64 a, i64 b, .fn Nm.item_compare []]
  [.row .vrow (.agg 8) (l.map itemA)] (.tup []) [.row .vrow (.agg 8) ((insertionSort ltI l.toArray a b).toList.map itemA)] := by
 refine ACalls_of tab (dr_snd tab mixed) Nm.slices_insertionSortCmpFunc_api_Item_h rfl (by kernel_rfl) (Nat.le_of_ble_eq_true rfl) rfl ?_
 refine NW.w ?_
 refine NLoop.mk [] [0, 1, 2, 3, 8] (fun m vs H => ∃ (i : Nat) (d : List Item), a + 1 ≤ i ∧ m = b - i ∧ d.length = l.length ∧ insOuter ltI a b i d.toArray = insertionSort ltI l.toArray a b ∧ H = [.row .vrow (.agg 8) (d.map itemA)] ∧
  vs = [.own 0 0 l.length, i64 a, i64 b, .fn Nm.item_compare [], i64 i]) rfl ?_ ?_
 ·exact Canon.mk [] rfl ⟨b - (a + 1), a + 1, l, by omega, rfl, rfl, rfl, rfl, rfl⟩
 rintro m vs H ⟨i, d, hai, rfl, hdl, he, rfl, rfl⟩
 by_cases hib : i < b
 ·refine ND.yes (by omega) ?_
  refine NLoop.mk [] [0, 1, 2, 3, 8, 9] (fun m vs H => ∃ (j : Nat) (e : List Item), j ≤ i ∧ j = m ∧ e.length = l.length ∧ insInner ltI a j e.toArray = insInner ltI a i d.toArray ∧ H = [.row .vrow (.agg 8) (e.map itemA)] ∧
   vs = [.own 0 0 l.length, i64 a, i64 b, .fn Nm.item_compare [], i64 i, i64 j]) rfl ?_ ?_
  ·exact Canon.mk [] rfl ⟨i, i, d, Nat.le_refl _, rfl, hdl, rfl, rfl, rfl⟩
  rintro m vs H ⟨j, e, hji, rfl, hel, hee, rfl, rfl⟩
  by_cases hja : a < j
  ·obtain ⟨k, rfl⟩ : ∃ k, j = k + 1 := ⟨j - 1, by omega⟩
   have h1 : k + 1 < e.length := by omega
   have h0 : k < e.length := by omega
   have hc := item_compare_walk e[k + 1] e[k]
   have ek : Int.toNat (((k + 1 : Nat) : Int) - 1) = k := by omega
   have g1 := getA h1
   have g0 := getA h0
   cases hlt : ltI e[k + 1] e[k] with
   | true =>
    have hlt' := ltI_iff.1 hlt
    refine NP.mk (by kernel_rfl) ?_
    refine NDr.w _ ?_
    refine NDr.w _ ?_
    apply NDr.pure
    ·refine ND.yes (by omega) ?_
     exact ⟨rfl, rfl⟩
    refine NDr.w _ ?_
    refine NDr.w _ ?_
    apply NDr.any
    ·intro H'
     exact ⟨rfl, rfl⟩
    refine NDr.w _ ?_
    apply NDr.rd [0]
    ·intro fH TH
     refine NP.mk (by (simp only [zLm, zLa, zLr, zLc, zLn, zLt, zLd]; omega)) ?_
     exact ⟨rfl, rfl⟩
    apply NDr.rd [0]
    ·intro fH TH
     refine NG.map0N (by omega) ?_
     exact ⟨rfl, rfl⟩
    apply NDr.any
    ·intro H'
     exact ⟨rfl, rfl⟩
    refine NDr.w _ ?_
    apply NDr.pure
    ·refine NW.w ?_
     exact ⟨rfl, rfl⟩
    apply NDr.rd [0]
    ·intro fH TH
     refine NP.mk (by (simp only [zLm, zLa, zLr, zLc, zLn, zLt, zLd]; omega)) ?_
     rw [(ek)]
     exact ⟨rfl, rfl⟩
    apply NDr.rd [0]
    ·intro fH TH
     refine NG.map0N (by omega) ?_
     exact ⟨rfl, rfl⟩
    apply NDr.pure
    ·refine NCall.call (hc) rfl rfl ?_
     exact ⟨rfl, rfl⟩
    apply NDr.pure
    ·refine ND.yes (by omega) ?_
     exact ⟨rfl, rfl⟩
    refine NDr.w _ ?_
    refine NP.mk (by kernel_rfl) ?_
    refine NP.mk (by kernel_rfl) ?_
    apply NDr.any
    ·intro H'
     exact ⟨rfl, rfl⟩
    refine NDr.w _ ?_
    apply NDr.any
    ·intro H'
     exact ⟨rfl, rfl⟩
    refine NDr.w _ ?_
    apply NDr.pure
    ·refine NW.w ?_
     exact ⟨rfl, rfl⟩
    apply NDr.any
    ·intro H'
     exact ⟨rfl, rfl⟩
    refine NDr.w _ ?_
    apply NDr.pure
    ·refine NW.w ?_
     exact ⟨rfl, rfl⟩
    apply NDr.rd [0]
    ·intro fH TH
     refine NP.mk (by (simp only [zLm, zLa, zLr, zLc, zLn, zLt, zLd]; omega)) ?_
     rw [(ek)]
     exact ⟨rfl, rfl⟩
    apply NDr.rd [0]
    ·intro fH TH
     refine NG.map0N (by omega) ?_
     exact ⟨rfl, rfl⟩
    apply NDr.any
    ·intro H'
     exact ⟨rfl, rfl⟩
    refine NDr.w _ ?_
    apply NDr.rd [0]
    ·intro fH TH
     refine NP.mk (by (simp only [zLm, zLa, zLr, zLc, zLn, zLt, zLd]; omega)) ?_
     exact ⟨rfl, rfl⟩
    apply NDr.rd [0]
    ·intro fH TH
     refine NG.map0N (by omega) ?_
     exact ⟨rfl, rfl⟩
    apply NDr.rd [0]
    ·intro fH TH
     refine NP.mk (by (simp only [zLm, zLa, zLr, zLc, zLn, zLt, zLd]; omega)) ?_
     exact ⟨rfl, rfl⟩
    apply NDr.efw [0]
    ·refine NG.map0N (by omega) ?_
     exact ⟨rfl, rfl⟩
    ·repeat (first | exact True.intro | refine ⟨by first | exact rfl | exact True.intro, ?_⟩)
    apply NDr.efw []
    ·refine NP.mk (by (simp; omega)) ?_
     rw [(ek)]
     exact ⟨rfl, rfl⟩
    ·repeat (first | exact True.intro | refine ⟨by first | exact rfl | exact True.intro, ?_⟩)
    apply NDr.efw [0]
    ·refine NG.get (by simp; omega) ?_
     exact ⟨rfl, rfl⟩
    ·repeat (first | exact True.intro | refine ⟨by first | exact rfl | exact True.intro, ?_⟩)
    refine NP.mk (by kernel_rfl) ?_
    refine NW.w ?_
    exact Canon.mk [] rfl ⟨k, by omega, k, swpL e (k + 1) k h1 h0, by omega, rfl, (swpL_len h1 h0).trans hel, by rw [← hee, insInner_go hja (by rw [g1, g0, hlt]), swpL_eq h1 h0], by rw [← swpL_row h1 h0, Nat.zero_add, Nat.zero_add]; rfl, by rw [show (((k + 1 : Nat) : Int) - 1) = k by omega]; rfl⟩
   | false =>
    have hlt' : ¬ cmpIt e[k + 1] e[k] < 0 := fun h => by rw [ltI_iff.2 h] at hlt; simp at hlt
    refine NP.mk (by kernel_rfl) ?_
    refine NDr.w _ ?_
    refine NDr.w _ ?_
    apply NDr.pure
    ·refine ND.yes (by omega) ?_
     exact ⟨rfl, rfl⟩
    refine NDr.w _ ?_
    refine NDr.w _ ?_
    apply NDr.any
    ·intro H'
     exact ⟨rfl, rfl⟩
    refine NDr.w _ ?_
    apply NDr.rd [0]
    ·intro fH TH
     refine NP.mk (by (simp only [zLm, zLa, zLr, zLc, zLn, zLt, zLd]; omega)) ?_
     exact ⟨rfl, rfl⟩
    apply NDr.rd [0]
    ·intro fH TH
     refine NG.map0N (by omega) ?_
     exact ⟨rfl, rfl⟩
    apply NDr.any
    ·intro H'
     exact ⟨rfl, rfl⟩
    refine NDr.w _ ?_
    apply NDr.pure
    ·refine NW.w ?_
     exact ⟨rfl, rfl⟩
    apply NDr.rd [0]
    ·intro fH TH
     refine NP.mk (by (simp only [zLm, zLa, zLr, zLc, zLn, zLt, zLd]; omega)) ?_
     rw [(ek)]
     exact ⟨rfl, rfl⟩
    apply NDr.rd [0]
    ·intro fH TH
     refine NG.map0N (by omega) ?_
     exact ⟨rfl, rfl⟩
    apply NDr.pure
    ·refine NCall.call (hc) rfl rfl ?_
     exact ⟨rfl, rfl⟩
    apply NDr.pure
    ·refine ND.no (by omega) ?_
     exact ⟨rfl, rfl⟩
    refine NDr.w _ ?_
    refine NP.mk (by kernel_rfl) ?_
    refine NW.w ?_
    refine Canon.mk [] rfl ⟨b - (i + 1), by omega, i + 1, e, by omega, rfl, hel, ?_, rfl, rfl⟩
    rw [← he, insOuter.eq_def (i := i), if_pos hib, ← hee, insInner_stop (.inr ⟨k, rfl, by rw [g1, g0, hlt]⟩)]
  ·refine NP.mk (by kernel_rfl) ?_
   refine NDr.w _ ?_
   refine NDr.w _ ?_
   apply NDr.pure
   ·refine ND.no (by omega) ?_
    exact ⟨rfl, rfl⟩
   refine NDr.w _ ?_
   refine NDr.w _ ?_
   refine NP.mk (by kernel_rfl) ?_
   refine NW.w ?_
   refine Canon.mk [] rfl ⟨b - (i + 1), by omega, i + 1, e, by omega, rfl, hel, ?_, rfl, rfl⟩
   rw [← he, insOuter.eq_def (i := i), if_pos hib, ← hee, insInner_stop (.inl hja)]
 ·refine ND.no (by omega) ?_
  refine NRet.mk [] rfl ⟨.refl _, ?_⟩
  rw [← he, insOuter, if_neg hib]
end Go.Bv
namespace Go.Bv
set_option linter.unusedSimpArgs false
set_option linter.unusedVariables false
set_option maxHeartbeats 4000000
set_option maxRecDepth 20000
open Go Go.Proofs
open Go.Sort (swp siftDown heapBuild heapPop heapSort reverseLoop reverseRange)
theorem ltT {x y : Item} (h : ltI x y = true) : cmpIt x y < 0 := ltI_iff.1 h
theorem ltF {x y : Item} (h : ltI x y = false) : ¬ cmpIt x y < 0 := fun k => by rw [ltI_iff.2 k] at h; simp at h
theorem siftDown_walk (l : List Item) (lo hi first : Nat) (hb : first + hi ≤ l.length) (hlo : lo ≤ 2 ^ 40) (hl : l.length ≤ 2 ^ 40) : ACalls Tryz.prog Nm.slices_siftDownCmpFunc_api_Item [.own 0 0 l.length, i64 lo, i64 hi, i64 first, .fn Nm.item_compare []]
  [.row .vrow (.agg 8) (l.map itemA)] (.tup []) [.row .vrow (.agg 8) ((siftDown ltI hi first lo l.toArray).toList.map itemA)] := by
 refine ACalls_of tab (dr_snd tab mixed) Nm.slices_siftDownCmpFunc_api_Item_h rfl (by kernel_rfl) (Nat.le_of_ble_eq_true rfl) rfl ?_
 skip
 refine NLoop.mk [] [0, 2, 3, 4, 10] (fun m vs H => ∃ (root : Nat) (d : List Item), root ≤ 2 ^ 40 ∧ m = hi - root ∧ d.length = l.length ∧ siftDown ltI hi first root d.toArray = siftDown ltI hi first lo l.toArray ∧ H = [.row .vrow (.agg 8) (d.map itemA)] ∧
  vs = [.own 0 0 l.length, i64 hi, i64 first, .fn Nm.item_compare [], i64 root]) rfl ?_ ?_
 ·exact Canon.mk [] rfl ⟨hi - lo, lo, l, hlo, rfl, rfl, rfl, rfl, rfl⟩
 rintro m vs H ⟨root, d, hr, rfl, hdl, he, rfl, rfl⟩
 rw [← he]
 obtain ⟨c, hc⟩ : ∃ c, c = 2 * root + 1 := ⟨_, rfl⟩
 have ec : (2 : Int) * (root : Int) + 1 = (c : Int) := by omega
 have e1 : Int.toNat ((first : Int) + (c : Int)) = first + c := by omega
 have e2 : Int.toNat ((first : Int) + (c : Int) + 1) = first + c + 1 := by omega
 have e3 : Int.toNat ((first : Int) + ((c : Int) + 1)) = first + (c + 1) := by omega
 have er : Int.toNat ((first : Int) + (root : Int)) = first + root := by omega
 have eS := siftDown.eq_def ltI hi first root d.toArray
 rw [← hc] at eS
 by_cases h1 : c < hi
 ·have k0 : first + root < d.length := by omega
  have k1 : first + c < d.length := by omega
  have g0 := getA k0
  have g1 := getA k1
  have b1 := item_compare_walk d[first + root] d[first + c]
  rw [dif_neg (by omega)] at eS
  by_cases h2 : c + 1 < hi
  ·have k2 : first + c + 1 < d.length := by omega
   have k2' : first + (c + 1) < d.length := by omega
   have g2 := getA k2
   have g2' : d.toArray[first + (2 * root + 2)]! = d[first + (c + 1)] := by rw [← getA k2', show 2 * root + 2 = c + 1 by omega]
   have b0 := item_compare_walk d[first + c] d[first + c + 1]
   have b2 := item_compare_walk d[first + root] d[first + (c + 1)]
   cases t1 : ltI d[first + c] d[first + c + 1] with
   | true =>
    have q1 := ltT t1
    rw [if_pos (by rw [g1, g2, t1]; simp [h2])] at eS
    cases t2 : ltI d[first + root] d[first + (c + 1)] with
    | true =>
     have q2 := ltT t2
     refine NW.w ?_
     refine NW.w ?_
     rw [(ec)]
     refine ND.no (by omega) ?_
     refine NP.mk (by kernel_rfl) ?_
     refine NDr.w _ ?_
     apply NDr.pure
     ·refine NW.w ?_
      exact ⟨rfl, rfl⟩
     refine NDr.w _ ?_
     apply NDr.pure
     ·refine ND.yes (by omega) ?_
      exact ⟨rfl, rfl⟩
     refine NDr.w _ ?_
     refine NDr.w _ ?_
     apply NDr.any
     ·intro H'
      exact ⟨rfl, rfl⟩
     refine NDr.w _ ?_
     refine NDr.w _ ?_
     apply NDr.pure
     ·refine NW.w ?_
      exact ⟨rfl, rfl⟩
     apply NDr.rd [0]
     ·intro fH TH
      refine NP.mk (by (simp only [zLm, zLa, zLr, zLc, zLn, zLt, zLd]; omega)) ?_
      rw [(e1)]
      exact ⟨rfl, rfl⟩
     apply NDr.rd [0]
     ·intro fH TH
      refine NG.map0N (by omega) ?_
      exact ⟨rfl, rfl⟩
     apply NDr.any
     ·intro H'
      exact ⟨rfl, rfl⟩
     refine NDr.w _ ?_
     refine NDr.w _ ?_
     apply NDr.pure
     ·refine NW.w ?_
      exact ⟨rfl, rfl⟩
     apply NDr.pure
     ·refine NW.w ?_
      exact ⟨rfl, rfl⟩
     apply NDr.rd [0]
     ·intro fH TH
      refine NP.mk (by (simp only [zLm, zLa, zLr, zLc, zLn, zLt, zLd]; omega)) ?_
      rw [(e2)]
      exact ⟨rfl, rfl⟩
     apply NDr.rd [0]
     ·intro fH TH
      refine NG.map0N (by omega) ?_
      exact ⟨rfl, rfl⟩
     apply NDr.pure
     ·refine NCall.call (b0) rfl rfl ?_
      exact ⟨rfl, rfl⟩
     apply NDr.pure
     ·refine ND.yes (by omega) ?_
      exact ⟨rfl, rfl⟩
     refine NDr.w _ ?_
     refine NP.mk (by kernel_rfl) ?_
     refine NW.w ?_
     refine NP.mk (by kernel_rfl) ?_
     refine NDr.w _ ?_
     apply NDr.any
     ·intro H'
      exact ⟨rfl, rfl⟩
     refine NDr.w _ ?_
     refine NDr.w _ ?_
     apply NDr.pure
     ·refine NW.w ?_
      exact ⟨rfl, rfl⟩
     apply NDr.rd [0]
     ·intro fH TH
      refine NP.mk (by (simp only [zLm, zLa, zLr, zLc, zLn, zLt, zLd]; omega)) ?_
      rw [(er)]
      exact ⟨rfl, rfl⟩
     apply NDr.rd [0]
     ·intro fH TH
      refine NG.map0N (by omega) ?_
      exact ⟨rfl, rfl⟩
     apply NDr.any
     ·intro H'
      exact ⟨rfl, rfl⟩
     refine NDr.w _ ?_
     refine NDr.w _ ?_
     apply NDr.pure
     ·refine NW.w ?_
      exact ⟨rfl, rfl⟩
     apply NDr.rd [0]
     ·intro fH TH
      refine NP.mk (by (simp only [zLm, zLa, zLr, zLc, zLn, zLt, zLd]; omega)) ?_
      rw [(e3)]
      exact ⟨rfl, rfl⟩
     apply NDr.rd [0]
     ·intro fH TH
      refine NG.map0N (by omega) ?_
      exact ⟨rfl, rfl⟩
     apply NDr.pure
     ·refine NCall.call (b2) rfl rfl ?_
      exact ⟨rfl, rfl⟩
     apply NDr.pure
     ·refine ND.yes (by omega) ?_
      exact ⟨rfl, rfl⟩
     refine NDr.w _ ?_
     refine NP.mk (by kernel_rfl) ?_
     refine NP.mk (by kernel_rfl) ?_
     apply NDr.any
     ·intro H'
      exact ⟨rfl, rfl⟩
     refine NDr.w _ ?_
     refine NDr.w _ ?_
     apply NDr.pure
     ·refine NW.w ?_
      exact ⟨rfl, rfl⟩
     apply NDr.any
     ·intro H'
      exact ⟨rfl, rfl⟩
     refine NDr.w _ ?_
     refine NDr.w _ ?_
     apply NDr.pure
     ·refine NW.w ?_
      exact ⟨rfl, rfl⟩
     apply NDr.any
     ·intro H'
      exact ⟨rfl, rfl⟩
     refine NDr.w _ ?_
     refine NDr.w _ ?_
     apply NDr.pure
     ·refine NW.w ?_
      exact ⟨rfl, rfl⟩
     apply NDr.rd [0]
     ·intro fH TH
      refine NP.mk (by (simp only [zLm, zLa, zLr, zLc, zLn, zLt, zLd]; omega)) ?_
      rw [(e3)]
      exact ⟨rfl, rfl⟩
     apply NDr.rd [0]
     ·intro fH TH
      refine NG.map0N (by omega) ?_
      exact ⟨rfl, rfl⟩
     apply NDr.any
     ·intro H'
      exact ⟨rfl, rfl⟩
     refine NDr.w _ ?_
     refine NDr.w _ ?_
     apply NDr.pure
     ·refine NW.w ?_
      exact ⟨rfl, rfl⟩
     apply NDr.rd [0]
     ·intro fH TH
      refine NP.mk (by (simp only [zLm, zLa, zLr, zLc, zLn, zLt, zLd]; omega)) ?_
      rw [(er)]
      exact ⟨rfl, rfl⟩
     apply NDr.rd [0]
     ·intro fH TH
      refine NG.map0N (by omega) ?_
      exact ⟨rfl, rfl⟩
     apply NDr.rd [0]
     ·intro fH TH
      refine NP.mk (by (simp only [zLm, zLa, zLr, zLc, zLn, zLt, zLd]; omega)) ?_
      rw [(er)]
      exact ⟨rfl, rfl⟩
     apply NDr.efw [0]
     ·refine NG.map0N (by omega) ?_
      exact ⟨rfl, rfl⟩
     ·repeat (first | exact True.intro | refine ⟨by first | exact rfl | exact True.intro, ?_⟩)
     apply NDr.efw []
     ·refine NP.mk (by (simp; omega)) ?_
      rw [(e3)]
      exact ⟨rfl, rfl⟩
     ·repeat (first | exact True.intro | refine ⟨by first | exact rfl | exact True.intro, ?_⟩)
     apply NDr.efw [0]
     ·refine NG.get (by simp; omega) ?_
      exact ⟨rfl, rfl⟩
     ·repeat (first | exact True.intro | refine ⟨by first | exact rfl | exact True.intro, ?_⟩)
     refine NP.mk (by kernel_rfl) ?_
     rw [g2'] at eS
     refine Canon.mk [] rfl ⟨hi - (c + 1), by omega, c + 1, swpL d (first + root) (first + (c + 1)) k0 k2', by omega, rfl, (swpL_len k0 k2').trans hdl, ?_, ?_, rfl⟩
     ·rw [eS, g0, t2, if_neg (by simp), dif_pos (by omega), show 2 * root + 2 = c + 1 by omega, swpL_eq k0 k2']
     ·rw [← swpL_row k0 k2', Nat.zero_add, Nat.zero_add]; rfl
    | false =>
     have q2 := ltF t2
     refine NW.w ?_
     refine NW.w ?_
     rw [(ec)]
     refine ND.no (by omega) ?_
     refine NP.mk (by kernel_rfl) ?_
     refine NDr.w _ ?_
     apply NDr.pure
     ·refine NW.w ?_
      exact ⟨rfl, rfl⟩
     refine NDr.w _ ?_
     apply NDr.pure
     ·refine ND.yes (by omega) ?_
      exact ⟨rfl, rfl⟩
     refine NDr.w _ ?_
     refine NDr.w _ ?_
     apply NDr.any
     ·intro H'
      exact ⟨rfl, rfl⟩
     refine NDr.w _ ?_
     refine NDr.w _ ?_
     apply NDr.pure
     ·refine NW.w ?_
      exact ⟨rfl, rfl⟩
     apply NDr.rd [0]
     ·intro fH TH
      refine NP.mk (by (simp only [zLm, zLa, zLr, zLc, zLn, zLt, zLd]; omega)) ?_
      rw [(e1)]
      exact ⟨rfl, rfl⟩
     apply NDr.rd [0]
     ·intro fH TH
      refine NG.map0N (by omega) ?_
      exact ⟨rfl, rfl⟩
     apply NDr.any
     ·intro H'
      exact ⟨rfl, rfl⟩
     refine NDr.w _ ?_
     refine NDr.w _ ?_
     apply NDr.pure
     ·refine NW.w ?_
      exact ⟨rfl, rfl⟩
     apply NDr.pure
     ·refine NW.w ?_
      exact ⟨rfl, rfl⟩
     apply NDr.rd [0]
     ·intro fH TH
      refine NP.mk (by (simp only [zLm, zLa, zLr, zLc, zLn, zLt, zLd]; omega)) ?_
      rw [(e2)]
      exact ⟨rfl, rfl⟩
     apply NDr.rd [0]
     ·intro fH TH
      refine NG.map0N (by omega) ?_
      exact ⟨rfl, rfl⟩
     apply NDr.pure
     ·refine NCall.call (b0) rfl rfl ?_
      exact ⟨rfl, rfl⟩
     apply NDr.pure
     ·refine ND.yes (by omega) ?_
      exact ⟨rfl, rfl⟩
     refine NDr.w _ ?_
     refine NP.mk (by kernel_rfl) ?_
     refine NW.w ?_
     refine NP.mk (by kernel_rfl) ?_
     refine NDr.w _ ?_
     apply NDr.any
     ·intro H'
      exact ⟨rfl, rfl⟩
     refine NDr.w _ ?_
     refine NDr.w _ ?_
     apply NDr.pure
     ·refine NW.w ?_
      exact ⟨rfl, rfl⟩
     apply NDr.rd [0]
     ·intro fH TH
      refine NP.mk (by (simp only [zLm, zLa, zLr, zLc, zLn, zLt, zLd]; omega)) ?_
      rw [(er)]
      exact ⟨rfl, rfl⟩
     apply NDr.rd [0]
     ·intro fH TH
      refine NG.map0N (by omega) ?_
      exact ⟨rfl, rfl⟩
     apply NDr.any
     ·intro H'
      exact ⟨rfl, rfl⟩
     refine NDr.w _ ?_
     refine NDr.w _ ?_
     apply NDr.pure
     ·refine NW.w ?_
      exact ⟨rfl, rfl⟩
     apply NDr.rd [0]
     ·intro fH TH
      refine NP.mk (by (simp only [zLm, zLa, zLr, zLc, zLn, zLt, zLd]; omega)) ?_
      rw [(e3)]
      exact ⟨rfl, rfl⟩
     apply NDr.rd [0]
     ·intro fH TH
      refine NG.map0N (by omega) ?_
      exact ⟨rfl, rfl⟩
     apply NDr.pure
     ·refine NCall.call (b2) rfl rfl ?_
      exact ⟨rfl, rfl⟩
     apply NDr.pure
     ·refine ND.no (by omega) ?_
      exact ⟨rfl, rfl⟩
     refine NDr.w _ ?_
     refine NP.mk (by kernel_rfl) ?_
     rw [g2'] at eS
     refine NRet.mk [] rfl ⟨.refl _, ?_⟩
     rw [eS, g0, t2, if_pos (by simp)]
   | false =>
    have q1 := ltF t1
    rw [if_neg (by rw [g1, g2, t1]; simp)] at eS
    cases t2 : ltI d[first + root] d[first + c] with
    | true =>
     have q2 := ltT t2
     refine NW.w ?_
     refine NW.w ?_
     rw [(ec)]
     refine ND.no (by omega) ?_
     refine NP.mk (by kernel_rfl) ?_
     refine NDr.w _ ?_
     apply NDr.pure
     ·refine NW.w ?_
      exact ⟨rfl, rfl⟩
     refine NDr.w _ ?_
     apply NDr.pure
     ·refine ND.yes (by omega) ?_
      exact ⟨rfl, rfl⟩
     refine NDr.w _ ?_
     refine NDr.w _ ?_
     apply NDr.any
     ·intro H'
      exact ⟨rfl, rfl⟩
     refine NDr.w _ ?_
     refine NDr.w _ ?_
     apply NDr.pure
     ·refine NW.w ?_
      exact ⟨rfl, rfl⟩
     apply NDr.rd [0]
     ·intro fH TH
      refine NP.mk (by (simp only [zLm, zLa, zLr, zLc, zLn, zLt, zLd]; omega)) ?_
      rw [(e1)]
      exact ⟨rfl, rfl⟩
     apply NDr.rd [0]
     ·intro fH TH
      refine NG.map0N (by omega) ?_
      exact ⟨rfl, rfl⟩
     apply NDr.any
     ·intro H'
      exact ⟨rfl, rfl⟩
     refine NDr.w _ ?_
     refine NDr.w _ ?_
     apply NDr.pure
     ·refine NW.w ?_
      exact ⟨rfl, rfl⟩
     apply NDr.pure
     ·refine NW.w ?_
      exact ⟨rfl, rfl⟩
     apply NDr.rd [0]
     ·intro fH TH
      refine NP.mk (by (simp only [zLm, zLa, zLr, zLc, zLn, zLt, zLd]; omega)) ?_
      rw [(e2)]
      exact ⟨rfl, rfl⟩
     apply NDr.rd [0]
     ·intro fH TH
      refine NG.map0N (by omega) ?_
      exact ⟨rfl, rfl⟩
     apply NDr.pure
     ·refine NCall.call (b0) rfl rfl ?_
      exact ⟨rfl, rfl⟩
     apply NDr.pure
     ·refine ND.no (by omega) ?_
      exact ⟨rfl, rfl⟩
     refine NDr.w _ ?_
     refine NP.mk (by kernel_rfl) ?_
     refine NP.mk (by kernel_rfl) ?_
     refine NDr.w _ ?_
     apply NDr.any
     ·intro H'
      exact ⟨rfl, rfl⟩
     refine NDr.w _ ?_
     refine NDr.w _ ?_
     apply NDr.pure
     ·refine NW.w ?_
      exact ⟨rfl, rfl⟩
     apply NDr.rd [0]
     ·intro fH TH
      refine NP.mk (by (simp only [zLm, zLa, zLr, zLc, zLn, zLt, zLd]; omega)) ?_
      rw [(er)]
      exact ⟨rfl, rfl⟩
     apply NDr.rd [0]
     ·intro fH TH
      refine NG.map0N (by omega) ?_
      exact ⟨rfl, rfl⟩
     apply NDr.any
     ·intro H'
      exact ⟨rfl, rfl⟩
     refine NDr.w _ ?_
     refine NDr.w _ ?_
     apply NDr.pure
     ·refine NW.w ?_
      exact ⟨rfl, rfl⟩
     apply NDr.rd [0]
     ·intro fH TH
      refine NP.mk (by (simp only [zLm, zLa, zLr, zLc, zLn, zLt, zLd]; omega)) ?_
      rw [(e1)]
      exact ⟨rfl, rfl⟩
     apply NDr.rd [0]
     ·intro fH TH
      refine NG.map0N (by omega) ?_
      exact ⟨rfl, rfl⟩
     apply NDr.pure
     ·refine NCall.call (b1) rfl rfl ?_
      exact ⟨rfl, rfl⟩
     apply NDr.pure
     ·refine ND.yes (by omega) ?_
      exact ⟨rfl, rfl⟩
     refine NDr.w _ ?_
     refine NP.mk (by kernel_rfl) ?_
     refine NP.mk (by kernel_rfl) ?_
     apply NDr.any
     ·intro H'
      exact ⟨rfl, rfl⟩
     refine NDr.w _ ?_
     refine NDr.w _ ?_
     apply NDr.pure
     ·refine NW.w ?_
      exact ⟨rfl, rfl⟩
     apply NDr.any
     ·intro H'
      exact ⟨rfl, rfl⟩
     refine NDr.w _ ?_
     refine NDr.w _ ?_
     apply NDr.pure
     ·refine NW.w ?_
      exact ⟨rfl, rfl⟩
     apply NDr.any
     ·intro H'
      exact ⟨rfl, rfl⟩
     refine NDr.w _ ?_
     refine NDr.w _ ?_
     apply NDr.pure
     ·refine NW.w ?_
      exact ⟨rfl, rfl⟩
     apply NDr.rd [0]
     ·intro fH TH
      refine NP.mk (by (simp only [zLm, zLa, zLr, zLc, zLn, zLt, zLd]; omega)) ?_
      rw [(e1)]
      exact ⟨rfl, rfl⟩
     apply NDr.rd [0]
     ·intro fH TH
      refine NG.map0N (by omega) ?_
      exact ⟨rfl, rfl⟩
     apply NDr.any
     ·intro H'
      exact ⟨rfl, rfl⟩
     refine NDr.w _ ?_
     refine NDr.w _ ?_
     apply NDr.pure
     ·refine NW.w ?_
      exact ⟨rfl, rfl⟩
     apply NDr.rd [0]
     ·intro fH TH
      refine NP.mk (by (simp only [zLm, zLa, zLr, zLc, zLn, zLt, zLd]; omega)) ?_
      rw [(er)]
      exact ⟨rfl, rfl⟩
     apply NDr.rd [0]
     ·intro fH TH
      refine NG.map0N (by omega) ?_
      exact ⟨rfl, rfl⟩
     apply NDr.rd [0]
     ·intro fH TH
      refine NP.mk (by (simp only [zLm, zLa, zLr, zLc, zLn, zLt, zLd]; omega)) ?_
      rw [(er)]
      exact ⟨rfl, rfl⟩
     apply NDr.efw [0]
     ·refine NG.map0N (by omega) ?_
      exact ⟨rfl, rfl⟩
     ·repeat (first | exact True.intro | refine ⟨by first | exact rfl | exact True.intro, ?_⟩)
     apply NDr.efw []
     ·refine NP.mk (by (simp; omega)) ?_
      rw [(e1)]
      exact ⟨rfl, rfl⟩
     ·repeat (first | exact True.intro | refine ⟨by first | exact rfl | exact True.intro, ?_⟩)
     apply NDr.efw [0]
     ·refine NG.get (by simp; omega) ?_
      exact ⟨rfl, rfl⟩
     ·repeat (first | exact True.intro | refine ⟨by first | exact rfl | exact True.intro, ?_⟩)
     refine NP.mk (by kernel_rfl) ?_
     refine Canon.mk [] rfl ⟨hi - c, by omega, c, swpL d (first + root) (first + c) k0 k1, by omega, rfl, (swpL_len k0 k1).trans hdl, ?_, ?_, rfl⟩
     ·rw [eS, g0, g1, t2, if_neg (by simp), swpL_eq k0 k1]
     ·rw [← swpL_row k0 k1, Nat.zero_add, Nat.zero_add]; rfl
    | false =>
     have q2 := ltF t2
     refine NW.w ?_
     refine NW.w ?_
     rw [(ec)]
     refine ND.no (by omega) ?_
     refine NP.mk (by kernel_rfl) ?_
     refine NDr.w _ ?_
     apply NDr.pure
     ·refine NW.w ?_
      exact ⟨rfl, rfl⟩
     refine NDr.w _ ?_
     apply NDr.pure
     ·refine ND.yes (by omega) ?_
      exact ⟨rfl, rfl⟩
     refine NDr.w _ ?_
     refine NDr.w _ ?_
     apply NDr.any
     ·intro H'
      exact ⟨rfl, rfl⟩
     refine NDr.w _ ?_
     refine NDr.w _ ?_
     apply NDr.pure
     ·refine NW.w ?_
      exact ⟨rfl, rfl⟩
     apply NDr.rd [0]
     ·intro fH TH
      refine NP.mk (by (simp only [zLm, zLa, zLr, zLc, zLn, zLt, zLd]; omega)) ?_
      rw [(e1)]
      exact ⟨rfl, rfl⟩
     apply NDr.rd [0]
     ·intro fH TH
      refine NG.map0N (by omega) ?_
      exact ⟨rfl, rfl⟩
     apply NDr.any
     ·intro H'
      exact ⟨rfl, rfl⟩
     refine NDr.w _ ?_
     refine NDr.w _ ?_
     apply NDr.pure
     ·refine NW.w ?_
      exact ⟨rfl, rfl⟩
     apply NDr.pure
     ·refine NW.w ?_
      exact ⟨rfl, rfl⟩
     apply NDr.rd [0]
     ·intro fH TH
      refine NP.mk (by (simp only [zLm, zLa, zLr, zLc, zLn, zLt, zLd]; omega)) ?_
      rw [(e2)]
      exact ⟨rfl, rfl⟩
     apply NDr.rd [0]
     ·intro fH TH
      refine NG.map0N (by omega) ?_
      exact ⟨rfl, rfl⟩
     apply NDr.pure
     ·refine NCall.call (b0) rfl rfl ?_
      exact ⟨rfl, rfl⟩
     apply NDr.pure
     ·refine ND.no (by omega) ?_
      exact ⟨rfl, rfl⟩
     refine NDr.w _ ?_
     refine NP.mk (by kernel_rfl) ?_
     refine NP.mk (by kernel_rfl) ?_
     refine NDr.w _ ?_
     apply NDr.any
     ·intro H'
      exact ⟨rfl, rfl⟩
     refine NDr.w _ ?_
     refine NDr.w _ ?_
     apply NDr.pure
     ·refine NW.w ?_
      exact ⟨rfl, rfl⟩
     apply NDr.rd [0]
     ·intro fH TH
      refine NP.mk (by (simp only [zLm, zLa, zLr, zLc, zLn, zLt, zLd]; omega)) ?_
      rw [(er)]
      exact ⟨rfl, rfl⟩
     apply NDr.rd [0]
     ·intro fH TH
      refine NG.map0N (by omega) ?_
      exact ⟨rfl, rfl⟩
     apply NDr.any
     ·intro H'
      exact ⟨rfl, rfl⟩
     refine NDr.w _ ?_
     refine NDr.w _ ?_
     apply NDr.pure
     ·refine NW.w ?_
      exact ⟨rfl, rfl⟩
     apply NDr.rd [0]
     ·intro fH TH
      refine NP.mk (by (simp only [zLm, zLa, zLr, zLc, zLn, zLt, zLd]; omega)) ?_
      rw [(e1)]
      exact ⟨rfl, rfl⟩
     apply NDr.rd [0]
     ·intro fH TH
      refine NG.map0N (by omega) ?_
      exact ⟨rfl, rfl⟩
     apply NDr.pure
     ·refine NCall.call (b1) rfl rfl ?_
      exact ⟨rfl, rfl⟩
     apply NDr.pure
     ·refine ND.no (by omega) ?_
      exact ⟨rfl, rfl⟩
     refine NDr.w _ ?_
     refine NP.mk (by kernel_rfl) ?_
     refine NRet.mk [] rfl ⟨.refl _, ?_⟩
     rw [eS, g0, g1, t2, if_pos (by simp)]
  ·rw [if_neg (by simp [h2])] at eS
   cases t2 : ltI d[first + root] d[first + c] with
   | true =>
    have q2 := ltT t2
    refine NW.w ?_
    refine NW.w ?_
    rw [(ec)]
    refine ND.no (by omega) ?_
    refine NP.mk (by kernel_rfl) ?_
    refine NDr.w _ ?_
    apply NDr.pure
    ·refine NW.w ?_
     exact ⟨rfl, rfl⟩
    refine NDr.w _ ?_
    apply NDr.pure
    ·refine ND.no (by omega) ?_
     exact ⟨rfl, rfl⟩
    refine NDr.w _ ?_
    refine NDr.w _ ?_
    refine NP.mk (by kernel_rfl) ?_
    refine NP.mk (by kernel_rfl) ?_
    refine NDr.w _ ?_
    apply NDr.any
    ·intro H'
     exact ⟨rfl, rfl⟩
    refine NDr.w _ ?_
    refine NDr.w _ ?_
    apply NDr.pure
    ·refine NW.w ?_
     exact ⟨rfl, rfl⟩
    apply NDr.rd [0]
    ·intro fH TH
     refine NP.mk (by (simp only [zLm, zLa, zLr, zLc, zLn, zLt, zLd]; omega)) ?_
     rw [(er)]
     exact ⟨rfl, rfl⟩
    apply NDr.rd [0]
    ·intro fH TH
     refine NG.map0N (by omega) ?_
     exact ⟨rfl, rfl⟩
    apply NDr.any
    ·intro H'
     exact ⟨rfl, rfl⟩
    refine NDr.w _ ?_
    refine NDr.w _ ?_
    apply NDr.pure
    ·refine NW.w ?_
     exact ⟨rfl, rfl⟩
    apply NDr.rd [0]
    ·intro fH TH
     refine NP.mk (by (simp only [zLm, zLa, zLr, zLc, zLn, zLt, zLd]; omega)) ?_
     rw [(e1)]
     exact ⟨rfl, rfl⟩
    apply NDr.rd [0]
    ·intro fH TH
     refine NG.map0N (by omega) ?_
     exact ⟨rfl, rfl⟩
    apply NDr.pure
    ·refine NCall.call (b1) rfl rfl ?_
     exact ⟨rfl, rfl⟩
    apply NDr.pure
    ·refine ND.yes (by omega) ?_
     exact ⟨rfl, rfl⟩
    refine NDr.w _ ?_
    refine NP.mk (by kernel_rfl) ?_
    refine NP.mk (by kernel_rfl) ?_
    apply NDr.any
    ·intro H'
     exact ⟨rfl, rfl⟩
    refine NDr.w _ ?_
    refine NDr.w _ ?_
    apply NDr.pure
    ·refine NW.w ?_
     exact ⟨rfl, rfl⟩
    apply NDr.any
    ·intro H'
     exact ⟨rfl, rfl⟩
    refine NDr.w _ ?_
    refine NDr.w _ ?_
    apply NDr.pure
    ·refine NW.w ?_
     exact ⟨rfl, rfl⟩
    apply NDr.any
    ·intro H'
     exact ⟨rfl, rfl⟩
    refine NDr.w _ ?_
    refine NDr.w _ ?_
    apply NDr.pure
    ·refine NW.w ?_
     exact ⟨rfl, rfl⟩
    apply NDr.rd [0]
    ·intro fH TH
     refine NP.mk (by (simp only [zLm, zLa, zLr, zLc, zLn, zLt, zLd]; omega)) ?_
     rw [(e1)]
     exact ⟨rfl, rfl⟩
    apply NDr.rd [0]
    ·intro fH TH
     refine NG.map0N (by omega) ?_
     exact ⟨rfl, rfl⟩
    apply NDr.any
    ·intro H'
     exact ⟨rfl, rfl⟩
    refine NDr.w _ ?_
    refine NDr.w _ ?_
    apply NDr.pure
    ·refine NW.w ?_
     exact ⟨rfl, rfl⟩
    apply NDr.rd [0]
    ·intro fH TH
     refine NP.mk (by (simp only [zLm, zLa, zLr, zLc, zLn, zLt, zLd]; omega)) ?_
     rw [(er)]
     exact ⟨rfl, rfl⟩
    apply NDr.rd [0]
    ·intro fH TH
     refine NG.map0N (by omega) ?_
     exact ⟨rfl, rfl⟩
    apply NDr.rd [0]
    ·intro fH TH
     refine NP.mk (by (simp only [zLm, zLa, zLr, zLc, zLn, zLt, zLd]; omega)) ?_
     rw [(er)]
     exact ⟨rfl, rfl⟩
    apply NDr.efw [0]
    ·refine NG.map0N (by omega) ?_
     exact ⟨rfl, rfl⟩
    ·repeat (first | exact True.intro | refine ⟨by first | exact rfl | exact True.intro, ?_⟩)
    apply NDr.efw []
    ·refine NP.mk (by (simp; omega)) ?_
     rw [(e1)]
     exact ⟨rfl, rfl⟩
    ·repeat (first | exact True.intro | refine ⟨by first | exact rfl | exact True.intro, ?_⟩)
    apply NDr.efw [0]
    ·refine NG.get (by simp; omega) ?_
     exact ⟨rfl, rfl⟩
    ·repeat (first | exact True.intro | refine ⟨by first | exact rfl | exact True.intro, ?_⟩)
    refine NP.mk (by kernel_rfl) ?_
    refine Canon.mk [] rfl ⟨hi - c, by omega, c, swpL d (first + root) (first + c) k0 k1, by omega, rfl, (swpL_len k0 k1).trans hdl, ?_, ?_, rfl⟩
    ·rw [eS, g0, g1, t2, if_neg (by simp), swpL_eq k0 k1]
    ·rw [← swpL_row k0 k1, Nat.zero_add, Nat.zero_add]; rfl
   | false =>
    have q2 := ltF t2
    refine NW.w ?_
    refine NW.w ?_
    rw [(ec)]
    refine ND.no (by omega) ?_
    refine NP.mk (by kernel_rfl) ?_
    refine NDr.w _ ?_
    apply NDr.pure
    ·refine NW.w ?_
     exact ⟨rfl, rfl⟩
    refine NDr.w _ ?_
    apply NDr.pure
    ·refine ND.no (by omega) ?_
     exact ⟨rfl, rfl⟩
    refine NDr.w _ ?_
    refine NDr.w _ ?_
    refine NP.mk (by kernel_rfl) ?_
    refine NP.mk (by kernel_rfl) ?_
    refine NDr.w _ ?_
    apply NDr.any
    ·intro H'
     exact ⟨rfl, rfl⟩
    refine NDr.w _ ?_
    refine NDr.w _ ?_
    apply NDr.pure
    ·refine NW.w ?_
     exact ⟨rfl, rfl⟩
    apply NDr.rd [0]
    ·intro fH TH
     refine NP.mk (by (simp only [zLm, zLa, zLr, zLc, zLn, zLt, zLd]; omega)) ?_
     rw [(er)]
     exact ⟨rfl, rfl⟩
    apply NDr.rd [0]
    ·intro fH TH
     refine NG.map0N (by omega) ?_
     exact ⟨rfl, rfl⟩
    apply NDr.any
    ·intro H'
     exact ⟨rfl, rfl⟩
    refine NDr.w _ ?_
    refine NDr.w _ ?_
    apply NDr.pure
    ·refine NW.w ?_
     exact ⟨rfl, rfl⟩
    apply NDr.rd [0]
    ·intro fH TH
     refine NP.mk (by (simp only [zLm, zLa, zLr, zLc, zLn, zLt, zLd]; omega)) ?_
     rw [(e1)]
     exact ⟨rfl, rfl⟩
    apply NDr.rd [0]
    ·intro fH TH
     refine NG.map0N (by omega) ?_
     exact ⟨rfl, rfl⟩
    apply NDr.pure
    ·refine NCall.call (b1) rfl rfl ?_
     exact ⟨rfl, rfl⟩
    apply NDr.pure
    ·refine ND.no (by omega) ?_
     exact ⟨rfl, rfl⟩
    refine NDr.w _ ?_
    refine NP.mk (by kernel_rfl) ?_
    refine NRet.mk [] rfl ⟨.refl _, ?_⟩
    rw [eS, g0, g1, t2, if_pos (by simp)]
 ·rw [dif_pos (by omega)] at eS
  refine NW.w ?_
  refine NW.w ?_
  rw [(ec)]
  refine ND.yes (by omega) ?_
  refine NRet.mk [] rfl ⟨.refl _, ?_⟩
  rw [eS]
end Go.Bv
namespace Go.Bv
set_option linter.unusedSimpArgs false
set_option linter.unusedVariables false
set_option maxHeartbeats 4000000
set_option maxRecDepth 20000
open Go Go.Proofs
open Go.Sort (swp siftDown heapBuild heapPop heapSort reverseLoop reverseRange order2 median medianAdjacent choosePivot Hint)
theorem siftDown_len (hi first : Nat) : ∀ (n root : Nat) (d : Array Item), hi - root ≤ n → (siftDown ltI hi first root d).size = d.size := by
 intro n
 induction n with
 | zero =>
  intro root d h
  rw [siftDown, dif_pos (by omega)]
 | succ n ih =>
  intro root d h
  rw [siftDown]
  split
  ·rfl
  ·split
   ·split
    ·rfl
    ·split
     ·rw [ih _ _ (by omega), Go.Sort.swp_size]
     ·rfl
   ·split
    ·rfl
    ·rw [ih _ _ (by omega), Go.Sort.swp_size]
theorem sift_len (hi first root : Nat) (d : Array Item) : (siftDown ltI hi first root d).size = d.size := siftDown_len hi first _ root d (Nat.le_refl _)
theorem toA (d : Array Item) : d.toList.toArray = d := by simp
theorem heapSort_walk (l : List Item) (a b : Nat) (hab : a ≤ b) (hb : b ≤ l.length) (hl : l.length ≤ 2 ^ 39) : ACalls Tryz.prog Nm.slices_heapSortCmpFunc_api_Item [.own 0 0 l.length, i64 a, i64 b, .fn Nm.item_compare []]
  [.row .vrow (.agg 8) (l.map itemA)] (.tup []) [.row .vrow (.agg 8) ((heapSort ltI l.toArray a b).toList.map itemA)] := by
 refine ACalls_of tab (dr_snd tab mixed) Nm.slices_heapSortCmpFunc_api_Item_h rfl (by kernel_rfl) (Nat.le_of_ble_eq_true rfl) rfl ?_
 have et : (((b : Int) - (a : Int)) - 1).tdiv 2 = (((b - a - 1) / 2 : Nat) : Int) := by
  by_cases h : a = b
  ·subst h; rw [Int.sub_self, Nat.sub_self]; decide
  ·rw [show (b : Int) - (a : Int) - 1 = ((b - a - 1 : Nat) : Int) by omega]
   exact (Int.ofNat_tdiv (b - a - 1) 2).symm
 have eh : (b : Int) - (a : Int) = ((b - a : Nat) : Int) := by omega
 refine NW.w ?_
 refine NW.w ?_
 refine NP.mk (by omega) ?_
 rw [(et)]
 refine NW.w ?_
 refine NLoop.mk [] [0, 3, 8, 9, 10, 11] (fun m vs H => ∃ (k : Nat) (d : List Item), k = m ∧ k ≤ 2 ^ 40 ∧ d.length = l.length ∧ heapPop ltI a (b - a) (heapBuild ltI (b - a) a k d.toArray) = heapSort ltI l.toArray a b ∧ H = [.row .vrow (.agg 8) (d.map itemA)] ∧
  vs = [.own 0 0 l.length, .fn Nm.item_compare [], i64 a, i64 0, i64 (b - a : Nat), i64 ((k : Int) - 1)]) rfl ?_ ?_
 ·exact Canon.mk [] rfl ⟨_, (b - a - 1) / 2 + 1, l, rfl, by omega, rfl, rfl, rfl, by rw [eh, show (((b - a - 1) / 2 + 1 : Nat) : Int) - 1 = (((b - a - 1) / 2 : Nat) : Int) by omega]; rfl⟩
 rintro m vs H ⟨k, d, rfl, hk, hdl, he, rfl, rfl⟩
 cases k with
 | succ k =>
  rw [show (((k + 1 : Nat) : Int) - 1) = (k : Int) by omega]
  have w := siftDown_walk d k (b - a) a (by omega) (by omega) (by omega)
  rw [hdl] at w
  have hs := sift_len (b - a) a k d.toArray
  refine ND.yes (by omega) ?_
  refine NCall.atA (w) ?_
  refine NW.w ?_
  refine Canon.mk [] rfl ⟨k, by omega, k, (siftDown ltI (b - a) a k d.toArray).toList, rfl, by omega, by simpa using hs.trans hdl, ?_, rfl, rfl⟩
  rw [← he, heapBuild, toA]
 | zero =>
  refine ND.no (by omega) ?_
  refine NW.w ?_
  refine NLoop.mk [] [0, 3, 8, 9, 12] (fun m vs H => ∃ (k : Nat) (d : List Item), k = m ∧ k ≤ b - a ∧ d.length = l.length ∧ heapPop ltI a k d.toArray = heapSort ltI l.toArray a b ∧ H = [.row .vrow (.agg 8) (d.map itemA)] ∧
   vs = [.own 0 0 l.length, .fn Nm.item_compare [], i64 a, i64 0, i64 ((k : Int) - 1)]) rfl ?_ ?_
  ·exact Canon.mk [] rfl ⟨_, b - a, d, rfl, Nat.le_refl _, hdl, he, rfl, rfl⟩
  rintro m vs H ⟨k, d, rfl, hk, hdl, he, rfl, rfl⟩
  cases k with
  | succ k =>
   rw [show (((k + 1 : Nat) : Int) - 1) = (k : Int) by omega]
   have k1 : a < d.length := by omega
   have k2 : a + k < d.length := by omega
   have e1 : Int.toNat ((a : Int) + (k : Int)) = a + k := by omega
   have w := siftDown_walk (swpL d a (a + k) k1 k2) 0 k a (by rw [swpL_len]; omega) (by omega) (by rw [swpL_len]; omega)
   rw [swpL_len, hdl, ← swpL_row k1 k2] at w
   have hs := sift_len k a 0 (swpL d a (a + k) k1 k2).toArray
   refine ND.yes (by omega) ?_
   refine NP.mk (by kernel_rfl) ?_
   apply NDr.any
   ·intro H'
    exact ⟨rfl, rfl⟩
   refine NDr.w _ ?_
   apply NDr.any
   ·intro H'
    exact ⟨rfl, rfl⟩
   refine NDr.w _ ?_
   refine NDr.w _ ?_
   apply NDr.pure
   ·refine NW.w ?_
    exact ⟨rfl, rfl⟩
   apply NDr.any
   ·intro H'
    exact ⟨rfl, rfl⟩
   refine NDr.w _ ?_
   refine NDr.w _ ?_
   apply NDr.pure
   ·refine NW.w ?_
    exact ⟨rfl, rfl⟩
   apply NDr.rd [0]
   ·intro fH TH
    refine NP.mk (by (simp only [zLm, zLa, zLr, zLc, zLn, zLt, zLd]; omega)) ?_
    rw [(e1)]
    exact ⟨rfl, rfl⟩
   apply NDr.rd [0]
   ·intro fH TH
    refine NG.map0N (by omega) ?_
    exact ⟨rfl, rfl⟩
   apply NDr.any
   ·intro H'
    exact ⟨rfl, rfl⟩
   refine NDr.w _ ?_
   apply NDr.rd [0]
   ·intro fH TH
    refine NP.mk (by (simp only [zLm, zLa, zLr, zLc, zLn, zLt, zLd]; omega)) ?_
    exact ⟨rfl, rfl⟩
   apply NDr.rd [0]
   ·intro fH TH
    refine NG.map0N (by omega) ?_
    exact ⟨rfl, rfl⟩
   apply NDr.rd [0]
   ·intro fH TH
    refine NP.mk (by (simp only [zLm, zLa, zLr, zLc, zLn, zLt, zLd]; omega)) ?_
    exact ⟨rfl, rfl⟩
   apply NDr.efw [0]
   ·refine NG.map0N (by omega) ?_
    exact ⟨rfl, rfl⟩
   ·repeat (first | exact True.intro | refine ⟨by first | exact rfl | exact True.intro, ?_⟩)
   apply NDr.efw []
   ·refine NP.mk (by (simp; omega)) ?_
    rw [(e1)]
    exact ⟨rfl, rfl⟩
   ·repeat (first | exact True.intro | refine ⟨by first | exact rfl | exact True.intro, ?_⟩)
   apply NDr.efw [0]
   ·refine NG.get (by simp; omega) ?_
    exact ⟨rfl, rfl⟩
   ·repeat (first | exact True.intro | refine ⟨by first | exact rfl | exact True.intro, ?_⟩)
   refine NP.mk (by kernel_rfl) ?_
   rw [Nat.zero_add, Nat.zero_add]
   refine NCall.atA (w) ?_
   refine NW.w ?_
   refine Canon.mk [] rfl ⟨k, by omega, k, (siftDown ltI k a 0 (swpL d a (a + k) k1 k2).toArray).toList, rfl, by omega, by simpa [swpL_len] using hs.trans (by simp [swpL_len, hdl]), ?_, rfl, rfl⟩
   rw [← he, heapPop, toA, swpL_eq k1 k2]
  | zero =>
   refine ND.no (by omega) ?_
   exact NRet.mk [] rfl ⟨.refl _, by rw [← he]; rfl⟩
theorem reverse_walk (l : List Item) (a b : Nat) (hab : a < b) (hb : b ≤ l.length) (hl : l.length ≤ 2 ^ 39) : ACalls Tryz.prog Nm.slices_reverseRangeCmpFunc_api_Item [.own 0 0 l.length, i64 a, i64 b, .fn Nm.item_compare []]
  [.row .vrow (.agg 8) (l.map itemA)] (.tup []) [.row .vrow (.agg 8) ((reverseRange l.toArray a b).toList.map itemA)] := by
 refine ACalls_of tab (dr_snd tab mixed) Nm.slices_reverseRangeCmpFunc_api_Item_h rfl (by kernel_rfl) (Nat.le_of_ble_eq_true rfl) rfl ?_
 refine NW.w ?_
 refine NLoop.mk [] [0, 8, 9] (fun m vs H => ∃ (i j : Nat) (d : List Item), a ≤ i ∧ j < b ∧ m = j - i ∧ d.length = l.length ∧ reverseLoop i j d.toArray = reverseRange l.toArray a b ∧ H = [.row .vrow (.agg 8) (d.map itemA)] ∧
  vs = [.own 0 0 l.length, i64 i, i64 j]) rfl ?_ ?_
 ·exact Canon.mk [] rfl ⟨b - 1 - a, a, b - 1, l, Nat.le_refl _, by omega, rfl, rfl, rfl, rfl, by rw [show ((b : Int) - 1) = ((b - 1 : Nat) : Int) by omega]; rfl⟩
 rintro m vs H ⟨i, j, d, hai, hjb, rfl, hdl, he, rfl, rfl⟩
 rw [← he]
 by_cases hij : i < j
 ·have k1 : i < d.length := by omega
  have k2 : j < d.length := by omega
  refine ND.yes (by omega) ?_
  refine NP.mk (by kernel_rfl) ?_
  apply NDr.any
  ·intro H'
   exact ⟨rfl, rfl⟩
  refine NDr.w _ ?_
  apply NDr.any
  ·intro H'
   exact ⟨rfl, rfl⟩
  refine NDr.w _ ?_
  apply NDr.any
  ·intro H'
   exact ⟨rfl, rfl⟩
  refine NDr.w _ ?_
  apply NDr.rd [0]
  ·intro fH TH
   refine NP.mk (by (simp only [zLm, zLa, zLr, zLc, zLn, zLt, zLd]; omega)) ?_
   exact ⟨rfl, rfl⟩
  apply NDr.rd [0]
  ·intro fH TH
   refine NG.map0N (by omega) ?_
   exact ⟨rfl, rfl⟩
  apply NDr.any
  ·intro H'
   exact ⟨rfl, rfl⟩
  refine NDr.w _ ?_
  apply NDr.rd [0]
  ·intro fH TH
   refine NP.mk (by (simp only [zLm, zLa, zLr, zLc, zLn, zLt, zLd]; omega)) ?_
   exact ⟨rfl, rfl⟩
  apply NDr.rd [0]
  ·intro fH TH
   refine NG.map0N (by omega) ?_
   exact ⟨rfl, rfl⟩
  apply NDr.rd [0]
  ·intro fH TH
   refine NP.mk (by (simp only [zLm, zLa, zLr, zLc, zLn, zLt, zLd]; omega)) ?_
   exact ⟨rfl, rfl⟩
  apply NDr.efw [0]
  ·refine NG.map0N (by omega) ?_
   exact ⟨rfl, rfl⟩
  ·repeat (first | exact True.intro | refine ⟨by first | exact rfl | exact True.intro, ?_⟩)
  apply NDr.efw []
  ·refine NP.mk (by (simp; omega)) ?_
   exact ⟨rfl, rfl⟩
  ·repeat (first | exact True.intro | refine ⟨by first | exact rfl | exact True.intro, ?_⟩)
  apply NDr.efw [0]
  ·refine NG.get (by simp; omega) ?_
   exact ⟨rfl, rfl⟩
  ·repeat (first | exact True.intro | refine ⟨by first | exact rfl | exact True.intro, ?_⟩)
  refine NP.mk (by kernel_rfl) ?_
  refine NW.w ?_
  refine NW.w ?_
  refine Canon.mk [] rfl ⟨j - 1 - (i + 1), by omega, i + 1, j - 1, swpL d i j k1 k2, by omega, by omega, rfl, (swpL_len k1 k2).trans hdl, ?_, ?_, by rw [show ((j : Int) - 1) = ((j - 1 : Nat) : Int) by omega]; rfl⟩
  ·rw [reverseLoop.eq_def (i := i), if_pos hij, swpL_eq k1 k2]
  ·rw [← swpL_row k1 k2, Nat.zero_add, Nat.zero_add]; rfl
 ·refine ND.no (by omega) ?_
  refine NRet.mk [] rfl ⟨.refl _, ?_⟩
  rw [reverseLoop, if_neg hij]
theorem order2_walk (l : List Item) (a b s : Nat) (ha : a < l.length) (hb : b < l.length) (hl : l.length ≤ 2 ^ 39) (hs : s ≤ 2 ^ 40) : ACalls Tryz.prog Nm.slices_order2CmpFunc_api_Item [.own 0 0 l.length, i64 a, i64 b, .ptr 1 0 0, .fn Nm.item_compare []]
  [.row .vrow (.agg 8) (l.map itemA), .row .box .leaf [i64 s]] (.tup [i64 (order2 ltI l.toArray a b s).1, i64 (order2 ltI l.toArray a b s).2.1]) [.row .vrow (.agg 8) (l.map itemA), .row .box .leaf [i64 (order2 ltI l.toArray a b s).2.2]] := by
 refine ACalls_of tab (dr_snd tab mixed) Nm.slices_order2CmpFunc_api_Item_h rfl (by kernel_rfl) (Nat.le_of_ble_eq_true rfl) rfl ?_
 have b1 := item_compare_walk l[b] l[a]
 unfold order2
 rw [getA ha, getA hb]
 cases t : ltI l[b] l[a] with
 | true =>
  have q := ltT t
  refine NP.mk (by kernel_rfl) ?_
  refine NDr.w _ ?_
  apply NDr.any
  ·intro H'
   exact ⟨rfl, rfl⟩
  refine NDr.w _ ?_
  apply NDr.rd [0]
  ·intro fH TH
   refine NP.mk (by (simp only [zLm, zLa, zLr, zLc, zLn, zLt, zLd]; omega)) ?_
   exact ⟨rfl, rfl⟩
  apply NDr.rd [0]
  ·intro fH TH
   refine NG.map0N (by omega) ?_
   exact ⟨rfl, rfl⟩
  apply NDr.any
  ·intro H'
   exact ⟨rfl, rfl⟩
  refine NDr.w _ ?_
  apply NDr.rd [0]
  ·intro fH TH
   refine NP.mk (by (simp only [zLm, zLa, zLr, zLc, zLn, zLt, zLd]; omega)) ?_
   exact ⟨rfl, rfl⟩
  apply NDr.rd [0]
  ·intro fH TH
   refine NG.map0N (by omega) ?_
   exact ⟨rfl, rfl⟩
  apply NDr.pure
  ·refine NCall.call (b1) rfl rfl ?_
   exact ⟨rfl, rfl⟩
  apply NDr.pure
  ·refine ND.yes (by omega) ?_
   exact ⟨rfl, rfl⟩
  refine NP.mk (by kernel_rfl) ?_
  refine NW.w ?_
  exact NRet.mk [] rfl ⟨.refl _, rfl⟩
 | false =>
  have q := ltF t
  refine NP.mk (by kernel_rfl) ?_
  refine NDr.w _ ?_
  apply NDr.any
  ·intro H'
   exact ⟨rfl, rfl⟩
  refine NDr.w _ ?_
  apply NDr.rd [0]
  ·intro fH TH
   refine NP.mk (by (simp only [zLm, zLa, zLr, zLc, zLn, zLt, zLd]; omega)) ?_
   exact ⟨rfl, rfl⟩
  apply NDr.rd [0]
  ·intro fH TH
   refine NG.map0N (by omega) ?_
   exact ⟨rfl, rfl⟩
  apply NDr.any
  ·intro H'
   exact ⟨rfl, rfl⟩
  refine NDr.w _ ?_
  apply NDr.rd [0]
  ·intro fH TH
   refine NP.mk (by (simp only [zLm, zLa, zLr, zLc, zLn, zLt, zLd]; omega)) ?_
   exact ⟨rfl, rfl⟩
  apply NDr.rd [0]
  ·intro fH TH
   refine NG.map0N (by omega) ?_
   exact ⟨rfl, rfl⟩
  apply NDr.pure
  ·refine NCall.call (b1) rfl rfl ?_
   exact ⟨rfl, rfl⟩
  apply NDr.pure
  ·refine ND.no (by omega) ?_
   exact ⟨rfl, rfl⟩
  refine NP.mk (by kernel_rfl) ?_
  exact NRet.mk [] rfl ⟨.refl _, rfl⟩
theorem median_walk (l : List Item) (a b c s : Nat) (ha : a < l.length) (hb : b < l.length) (hc : c < l.length) (hl : l.length ≤ 2 ^ 39) (hs : s ≤ 2 ^ 39) : ACalls Tryz.prog Nm.slices_medianCmpFunc_api_Item [.own 0 0 l.length, i64 a, i64 b, i64 c, .ptr 1 0 0, .fn Nm.item_compare []]
  [.row .vrow (.agg 8) (l.map itemA), .row .box .leaf [i64 s]] (i64 (median ltI l.toArray a b c s).1) [.row .vrow (.agg 8) (l.map itemA), .row .box .leaf [i64 (median ltI l.toArray a b c s).2]] := by
 refine ACalls_of tab (dr_snd tab mixed) Nm.slices_medianCmpFunc_api_Item_h rfl (by kernel_rfl) (Nat.le_of_ble_eq_true rfl) rfl ?_
 have m1 := Go.Sort.order2_mem ltI l.toArray a b s
 have n1 := Go.Sort.order2_count ltI l.toArray a b s
 have w1 := order2_walk l a b s ha hb hl (by omega)
 unfold median
 generalize order2 ltI l.toArray a b s = r1 at *
 have m2 := Go.Sort.order2_mem ltI l.toArray r1.2.1 c r1.2.2
 have n2 := Go.Sort.order2_count ltI l.toArray r1.2.1 c r1.2.2
 have w2 := order2_walk l r1.2.1 c r1.2.2 (by omega) hc hl (by omega)
 simp only
 generalize order2 ltI l.toArray r1.2.1 c r1.2.2 = r2 at *
 have w3 := order2_walk l r1.1 r2.1 r2.2.2 (by omega) (by omega) hl (by omega)
 generalize order2 ltI l.toArray r1.1 r2.1 r2.2.2 = r3 at *
 refine NCall.atA (w1) ?_
 refine NCall.atA (w2) ?_
 refine NCall.atA (w3) ?_
 exact NRet.mk [] rfl ⟨.refl _, rfl⟩
theorem medianAdj_walk (l : List Item) (a s : Nat) (h1 : 1 ≤ a) (ha : a + 1 < l.length) (hl : l.length ≤ 2 ^ 39) (hs : s ≤ 2 ^ 39) : ACalls Tryz.prog Nm.slices_medianAdjacentCmpFunc_api_Item [.own 0 0 l.length, i64 a, .ptr 1 0 0, .fn Nm.item_compare []]
  [.row .vrow (.agg 8) (l.map itemA), .row .box .leaf [i64 s]] (i64 (medianAdjacent ltI l.toArray a s).1) [.row .vrow (.agg 8) (l.map itemA), .row .box .leaf [i64 (medianAdjacent ltI l.toArray a s).2]] := by
 refine ACalls_of tab (dr_snd tab mixed) Nm.slices_medianAdjacentCmpFunc_api_Item_h rfl (by kernel_rfl) (Nat.le_of_ble_eq_true rfl) rfl ?_
 have w := median_walk l (a - 1) a (a + 1) s (by omega) (by omega) ha hl hs
 unfold medianAdjacent
 generalize median ltI l.toArray (a - 1) a (a + 1) s = r at *
 rw [show (((a - 1 : Nat)) : Int) = (a : Int) - 1 by omega, show (((a + 1 : Nat)) : Int) = (a : Int) + 1 by omega] at w
 refine NW.w ?_
 refine NW.w ?_
 refine NCall.atA (w) ?_
 exact NRet.mk [] rfl ⟨.refl _, rfl⟩
end Go.Bv
