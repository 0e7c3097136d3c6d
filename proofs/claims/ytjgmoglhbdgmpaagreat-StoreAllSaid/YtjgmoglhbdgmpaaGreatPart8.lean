/- Part of the lift: an abstract walk of the program's code, proved sound, and what it shows of this program. -/
import Derived.Test.YtjgmoglhbdgmpaaGreatPart6
import Derived.Test.YtjgmoglhbdgmpaaGreatPart7
namespace Go.Bv
open Go Go.Proofs
def okInt (z : Int) : Prop := -9223372036854775808 ≤ z ∧ z < 9223372036854775808
@[ext] structure Dot where
 node : Int
 seq : Int
 at' : Int
 deriving DecidableEq
@[ext] structure Item where
 key : List UInt8
 field : List UInt8
 kind : Int
 elem : List UInt8
 n : Int
 dot : Dot
 deriving DecidableEq
@[ext] structure Eff where
 at' : Int
 key : List UInt8
 field : List UInt8
 kind : Int
 elem : List UInt8
 n : Int
 drops : List Dot
 deriving DecidableEq
@[ext] structure Txn where
 node : Int
 seq : Int
 deps : List Int
 effs : List Eff
 deriving DecidableEq
@[ext] structure Store where
 heard : List Int
 items : List Item
 deriving DecidableEq
@[ext] structure Past where
 floor : List Int
 list : List Txn
 deriving DecidableEq
@[ext] structure Queue where
 most : Int
 list : List Txn
 deriving DecidableEq
@[ext] structure Packet where
 src : Int
 dst : Int
 bytes : List UInt8
 deriving DecidableEq
@[ext] structure Net where
 way : List Packet
 deriving DecidableEq
structure NetOp where
 do' : Int
 src : Int
 dst : Int
 i : Int
 b : List UInt8
structure JOp where
 do' : Int
 keep : Int
 b : List UInt8
structure QOp where
 hears : Bool
 n : Int
 t : Txn
def dotC (x : Dot) : List AV := [i64 x.node, i64 x.seq, i64 x.at']
def dotA (x : Dot) : AV := .agg (dotC x)
def itemC (x : Item) : List AV := [.str x.key, .str x.field, i64 x.kind, .str x.elem, i64 x.n, i64 x.dot.node, i64 x.dot.seq, i64 x.dot.at']
def itemA (x : Item) : AV := .agg (itemC x)
def dotsA (l : List Dot) : AV := .list (.agg 3) (l.map dotA)
def itemsA (l : List Item) : AV := .list (.agg 8) (l.map itemA)
def effC (x : Eff) : List AV := [i64 x.at', .str x.key, .str x.field, i64 x.kind, .str x.elem, i64 x.n, dotsA x.drops]
def effA (x : Eff) : AV := .agg (effC x)
def effsA (l : List Eff) : AV := .list (.agg 7) (l.map effA)
def txnC (x : Txn) : List AV := [i64 x.node, i64 x.seq, ints x.deps, effsA x.effs]
def txnA (x : Txn) : AV := .agg (txnC x)
def txnsA (l : List Txn) : AV := .list (.agg 4) (l.map txnA)
def storeC (x : Store) : List AV := [ints x.heard, itemsA x.items]
def storeA (x : Store) : AV := .agg (storeC x)
def okDot (x : Dot) : Prop := okInt x.node ∧ okInt x.seq ∧ okInt x.at'
def okItem (x : Item) : Prop := x.key.length ≤ reachBytes ∧ x.field.length ≤ reachBytes ∧ okInt x.kind ∧ x.elem.length ≤ reachBytes ∧ okInt x.n ∧ okDot x.dot
def okEff (x : Eff) : Prop := okInt x.at' ∧ x.key.length ≤ reachBytes ∧ x.field.length ≤ reachBytes ∧ okInt x.kind ∧ x.elem.length ≤ reachBytes ∧ okInt x.n ∧ (x.drops.length ≤ reachBytes ∧ ∀ y ∈ x.drops, okDot y)
def okTxn (x : Txn) : Prop := okInt x.node ∧ okInt x.seq ∧ (x.deps.length ≤ reachBytes ∧ ∀ y ∈ x.deps, okInt y) ∧ (x.effs.length ≤ reachBytes ∧ ∀ y ∈ x.effs, okEff y)
def okStore (x : Store) : Prop := (x.heard.length ≤ reachBytes ∧ ∀ y ∈ x.heard, okInt y) ∧ (x.items.length ≤ reachBytes ∧ ∀ y ∈ x.items, okItem y)
theorem snocMap {α β : Type} (f : α → β) (l : List α) {i : Nat} (h : i < l.length) : (l.take (i + 1)).map f = (l.take i).map f ++ [f l[i]] := by
 rw [List.take_succ_eq_append_getElem h, List.map_append]; rfl
theorem drop_more {xs l : List AV} {o n : Nat} (h : (xs.drop o).take n = l) (hn : l.length = n) : xs.drop o = l ++ xs.drop (o + n) := by
 conv => lhs; rw [← List.take_append_drop n (xs.drop o), h, List.drop_drop]
theorem drop_all' {xs : List AV} {n : Nat} (h : xs.length = n) : xs.drop n = [] := List.drop_eq_nil_of_le (by omega)
end Go.Bv
namespace Go.Bv
set_option linter.unusedSimpArgs false
set_option linter.unusedVariables false
set_option maxHeartbeats 4000000
open Go Go.Proofs
/-- slices.Clone of a vector. -/
theorem cloneV_walk (l : List Int) (hl : l.length ≤ 2 ^ 40) : ACalls Tryz.prog Nm.slices_Clone_api_Vec_int [ints l] [] (.own 0 0 l.length) [.row .vrow .leaf (l.map i64)] := by
 refine ACalls_of tab noDr_snd Nm.slices_Clone_api_Vec_int_h rfl (by kernel_rfl) (Nat.le_of_ble_eq_true rfl) rfl ?_
 refine NN.mk (fun h => ?_) ?_
 ·have : l = [] := by simpa using h
  subst this
  exact NRet.ad [(2, .leaf)] [0] rfl ⟨.refl _, rfl⟩
 ·refine NFz.own ?_
  refine NApp.endA rfl (by simp; omega) ?_
  refine NRet.mk [1] rfl ⟨?_, rfl⟩
  show LeA (.own 0 0 (l.map i64).length) _
  rw [List.length_map]; exact .refl _
theorem vecAt_walk (v : List Int) (n : Int) (hl : v.length ≤ 2 ^ 40) : ACalls Tryz.prog Nm.vec_At [ints v, i64 n] [] (i64 (vatI v n)) [] := by
 refine ACalls_of tab (dr_snd tab mixed) Nm.vec_At_h rfl (by kernel_rfl) (Nat.le_of_ble_eq_true rfl) rfl ?_
 unfold vatI
 by_cases h0 : n < 0
 ·rw [if_pos h0]
  refine ND.yes (by omega) ?_
  exact NRet.mk [] rfl ⟨.refl _, rfl⟩
 ·rw [if_neg h0]
  obtain ⟨j, rfl⟩ : ∃ j : Nat, n = j := ⟨n.toNat, by omega⟩
  rw [Int.toNat_natCast]
  by_cases h1 : j < v.length
  ·rw [vat_in h1]
   refine ND.no (by omega) ?_
   refine ND.no (by (simp only [zLm, zLa, zLr, zLc, zLn, zLt, zLd]; omega)) ?_
   refine NP.mk (by omega) ?_
   refine NG.mapN (by omega) ?_
   exact NRet.mk [] rfl ⟨.refl _, rfl⟩
  ·rw [vat_out (by omega)]
   refine ND.no (by omega) ?_
   refine ND.yes (by (simp only [zLm, zLa, zLr, zLc, zLn, zLt, zLd]; omega)) ?_
   exact NRet.mk [] rfl ⟨.refl _, rfl⟩
theorem vecTrim_walk (v : List Int) (hl : v.length ≤ 2 ^ 40) : ACalls Tryz.prog Nm.vec_Trim [ints v] [] (ints (trim v)) [] := by
 refine ACalls_of tab (dr_snd tab mixed) Nm.vec_Trim_h rfl (by kernel_rfl) (Nat.le_of_ble_eq_true rfl) rfl ?_
 refine NLoop.mk [] [0, 3] (fun m vs H => ∃ n, n ≤ v.length ∧ m = n ∧ trim v = trim (v.take n) ∧ H = [] ∧ vs = [ints v, i64 n]) rfl ?_ ?_
 ·exact Canon.mk [] rfl ⟨v.length, v.length, Nat.le_refl _, rfl, by rw [List.take_length], rfl, by simp [i64, ints]⟩
 ·rintro m vs H ⟨n, hn, rfl, ht, rfl, rfl⟩
  have fin : (m = 0 ∨ ∃ h : m - 1 < v.length, 0 < m ∧ 0 < v[m - 1]) → trim v = (v.take m).map (max · 0) := by
   rintro (rfl | ⟨h, h0, hp⟩)
   ·rw [ht]; rfl
   ·rw [ht, show v.take m = v.take (m - 1) ++ [v[m - 1]] by rw [← List.take_succ_eq_append_getElem h]; congr 1; omega]
    exact trim_snoc_pos _ hp
  refine NB.dec (fun h1 => ?_) (fun h1 => ?_)
  ·have h1' : 0 < m := by omega
   have hlt : m - 1 < v.length := by omega
   refine NW.i64 (by omega) (by omega) (NP.mk (by omega) (NG.mapE (j := m - 1) (by omega) hlt ?_))
   refine NB.dec (fun h2 => ?_) (fun h2 => ?_)
   ·refine NW.i64 (by omega) (by omega) (Canon.mk [] rfl ⟨m - 1, by omega, m - 1, by omega, rfl, ?_, rfl, ?_⟩)
    ·rw [ht, show v.take m = v.take (m - 1) ++ [v[m - 1]] by rw [← List.take_succ_eq_append_getElem hlt]; congr 1; omega]
     exact trim_snoc_np _ h2
    ·show [_, AV.int .i64 ((m : Int) - 1)] = [_, AV.int .i64 ((m - 1 : Nat) : Int)]
     rw [show ((m - 1 : Nat) : Int) = (m : Int) - 1 by omega]; rfl
   ·have hfin := fin (.inr ⟨hlt, h1', by omega⟩)
    have e : (v.map i64).take ((m : Int)).toNat = (v.take m).map i64 := by rw [Int.toNat_natCast, List.map_take]
    have hwl : (v.take m).length ≤ 2 ^ 40 := by simp; omega
    generalize v.take m = w at *
    have hc := cloneV_walk w hwl
    refine NP.mk (by (simp only [zLm, zLa, zLr, zLc, zLn, zLt, zLd]; omega)) ?_
    rw [(e)]
    refine NCall.atA (ACalls.frame (hc) rfl _) ?_
    refine NLoop.mk [] [4, 25, 26] (fun q vs H => ∃ i, i ≤ w.length ∧ q = w.length - i ∧ H = [.row .vrow .leaf ((mx w i).map i64)] ∧ vs = [.own 0 0 w.length, i64 w.length, i64 i]) rfl ?_ ?_
    ·exact Canon.mk [0] rfl ⟨w.length, 0, Nat.zero_le _, rfl, by rw [mx_zero], rfl⟩
    ·rintro q vs H ⟨i, hi, rfl, rfl, rfl⟩
     have hml := mx_len w i
     refine NB.dec (fun h3 => ?_) (fun h3 => ?_)
     ·have hi' : i < w.length := by omega
      refine NP.mk (by (simp only [zLm, zLa, zLr, zLc, zLn, zLt, zLd]; omega)) ?_
      refine NG.mapN (by omega) ?_
      refine NP.mk (by (simp only [zLm, zLa, zLr, zLc, zLn, zLt, zLd]; omega)) ?_
      refine NG.mapN (by omega) ?_
      refine NW.w ?_
      refine Canon.mk [0] rfl ⟨w.length - (i + 1), by omega, i + 1, by omega, rfl, ?_, rfl⟩
      rw [← mx_set hi', List.map_set]
      simp only [Int.toNat_natCast, Nat.zero_add, mx_at hi']
      rfl
     ·have : i = w.length := by omega
      subst this
      refine NRet.mk [] rfl (NFrz.mk ((mx w w.length).map i64) (by simp [mx_len]) (by rw [List.drop_zero, List.take_of_length_le (by simp [mx_len])]) ⟨by rw [hfin, ← mx_full]; exact .refl _, rfl⟩)
  ·have hfin := fin (.inl (by omega))
   have e : (v.map i64).take ((m : Int)).toNat = (v.take m).map i64 := by rw [Int.toNat_natCast, List.map_take]
   have hwl : (v.take m).length ≤ 2 ^ 40 := by simp; omega
   generalize v.take m = w at *
   have hc := cloneV_walk w hwl
   refine NP.mk (by omega) ?_
   rw [(e)]
   refine NCall.atA (ACalls.frame (hc) rfl _) ?_
   refine NLoop.mk [] [4, 25, 26] (fun q vs H => ∃ i, i ≤ w.length ∧ q = w.length - i ∧ H = [.row .vrow .leaf ((mx w i).map i64)] ∧ vs = [.own 0 0 w.length, i64 w.length, i64 i]) rfl ?_ ?_
   ·exact Canon.mk [0] rfl ⟨w.length, 0, Nat.zero_le _, rfl, by rw [mx_zero], rfl⟩
   ·rintro q vs H ⟨i, hi, rfl, rfl, rfl⟩
    have hml := mx_len w i
    refine NB.dec (fun h3 => ?_) (fun h3 => ?_)
    ·have hi' : i < w.length := by omega
     refine NP.mk (by (simp only [zLm, zLa, zLr, zLc, zLn, zLt, zLd]; omega)) ?_
     refine NG.mapN (by omega) ?_
     refine NP.mk (by (simp only [zLm, zLa, zLr, zLc, zLn, zLt, zLd]; omega)) ?_
     refine NG.mapN (by omega) ?_
     refine NW.w ?_
     refine Canon.mk [0] rfl ⟨w.length - (i + 1), by omega, i + 1, by omega, rfl, ?_, rfl⟩
     rw [← mx_set hi', List.map_set]
     simp only [Int.toNat_natCast, Nat.zero_add, mx_at hi']
     rfl
    ·have : i = w.length := by omega
     subst this
     refine NRet.mk [] rfl (NFrz.mk ((mx w w.length).map i64) (by simp [mx_len]) (by rw [List.drop_zero, List.take_of_length_le (by simp [mx_len])]) ⟨by rw [hfin, ← mx_full]; exact .refl _, rfl⟩)
theorem vecHas_walk (v : List Int) (a b c : Int) (hl : v.length ≤ 2 ^ 40) : ACalls Tryz.prog Nm.vec_Has [ints v, .agg [i64 a, i64 b, i64 c]] [] (.bool (decide (1 ≤ b ∧ b ≤ vatI v a))) [] := by
 refine ACalls_of tab (dr_snd tab mixed) Nm.vec_Has_h rfl (by kernel_rfl) (Nat.le_of_ble_eq_true rfl) rfl ?_
 by_cases hk1 : 1 ≤ b
 ·rw [show decide (1 ≤ b ∧ b ≤ vatI v a) = decide (b ≤ vatI v a) by simp [hk1]]
  refine NP.mk (by kernel_rfl) ?_
  apply NDr.rd [0]
  ·intro fH TH
   exact ⟨rfl, rfl⟩
  apply NDr.rd [0]
  ·intro fH TH
   exact ⟨rfl, rfl⟩
  apply NDr.pure
  ·refine ND.yes (by omega) ?_
   exact ⟨rfl, rfl⟩
  refine NDr.w _ ?_
  apply NDr.rd [0]
  ·intro fH TH
   exact ⟨rfl, rfl⟩
  apply NDr.rd [0]
  ·intro fH TH
   exact ⟨rfl, rfl⟩
  refine NDr.w _ ?_
  apply NDr.rd [0]
  ·intro fH TH
   exact ⟨rfl, rfl⟩
  apply NDr.rd [0]
  ·intro fH TH
   exact ⟨rfl, rfl⟩
  apply NDr.pure
  ·refine NCall.call (vecAt_walk v a hl) rfl rfl ?_
   exact ⟨rfl, rfl⟩
  apply NDr.pure
  ·exact NB.det
  refine NDr.w _ ?_
  refine NDr.w _ ?_
  refine NP.mk (by kernel_rfl) ?_
  exact NRet.mk [] rfl ⟨.refl _, rfl⟩
 ·rw [show decide (1 ≤ b ∧ b ≤ vatI v a) = false by simp [hk1]]
  refine NP.mk (by kernel_rfl) ?_
  apply NDr.rd [0]
  ·intro fH TH
   exact ⟨rfl, rfl⟩
  apply NDr.rd [0]
  ·intro fH TH
   exact ⟨rfl, rfl⟩
  apply NDr.pure
  ·refine ND.no (by omega) ?_
   exact ⟨rfl, rfl⟩
  refine NDr.w _ ?_
  refine NDr.w _ ?_
  refine NDr.w _ ?_
  refine NP.mk (by kernel_rfl) ?_
  exact NRet.mk [] rfl ⟨.refl _, rfl⟩
theorem vecWithin_walk (a b : List Int) (ha : a.length ≤ 2 ^ 40) (hb : b.length ≤ 2 ^ 40) : ACalls Tryz.prog Nm.vec_Within [ints a, ints b] [] (.bool (vwithin a b)) [] := by
 refine ACalls_of tab (dr_snd tab mixed) Nm.vec_Within_h rfl (by kernel_rfl) (Nat.le_of_ble_eq_true rfl) rfl ?_
 refine NLoop.mk [] [0, 1, 6, 7, 8] (fun m vs H => ∃ i, i ≤ a.length ∧ m = a.length - i ∧ (∀ j, j < i → vat a j ≤ vat b j) ∧ H = [] ∧ vs = [ints a, ints b, ints a, i64 a.length, i64 i]) rfl ?_ ?_
 ·exact Canon.mk [] rfl ⟨a.length, 0, Nat.zero_le _, rfl, fun j hj => by omega, rfl, by simp [i64, ints]⟩
 ·rintro m vs H ⟨i, hi, rfl, ht, rfl, rfl⟩
  refine NB.dec (fun h1 => ?_) (fun h1 => ?_)
  ·refine NCall.call (vecAt_walk a i ha) rfl rfl ?_
   refine NCall.call (vecAt_walk b i hb) rfl rfl ?_
   have hva : vatI a i = vat a i := by unfold vatI; rw [if_neg (by omega), Int.toNat_natCast]
   have hvb : vatI b i = vat b i := by unfold vatI; rw [if_neg (by omega), Int.toNat_natCast]
   refine NB.dec (fun h2 => ?_) (fun h2 => ?_)
   ·have : vwithin a b = false := by
     cases hq : vwithin a b with
     | false => rfl
     | true => have := (vwithin_iff a b).1 hq i; omega
    rw [this]
    exact NRet.mk [] rfl ⟨.refl _, rfl⟩
   ·refine NW.w ?_
    refine Canon.mk [] rfl ⟨a.length - (i + 1), by omega, i + 1, by omega, rfl, fun j hj => ?_, rfl, rfl⟩
    rcases Nat.lt_or_ge j i with h | h
    ·exact ht j h
    ·rw [show j = i by omega]; omega
  ·have : vwithin a b = true := (vwithin_iff a b).2 fun j => by
    rcases Nat.lt_or_ge j a.length with h | h
    ·exact ht j (by omega)
    ·rw [vat_out h]; exact vat_nonneg b j
   rw [this]
   exact NRet.mk [] rfl ⟨.refl _, rfl⟩
theorem vecWith_walk (v : List Int) (node n : Int) (hl : v.length ≤ 2 ^ 39) (h : 0 ≤ node ∧ node < 8 ∧ 0 ≤ n ∧ n ≤ 1073741824) : ACalls Tryz.prog Nm.vec_With [ints v, i64 node, i64 n] [] (.tup [ints (trim (vset v node.toNat n)), i64 0]) [] := by
 refine ACalls_of tab (dr_snd tab mixed) Nm.vec_With_h rfl (by kernel_rfl) (Nat.le_of_ble_eq_true rfl) rfl ?_
 obtain ⟨j, rfl⟩ : ∃ j : Nat, node = j := ⟨node.toNat, by omega⟩
 refine ND.no (by omega) ?_
 refine ND.no (by omega) ?_
 refine ND.no (by omega) ?_
 refine ND.no (by omega) ?_
 refine NCall.atA (ACalls.frame (cloneV_walk v (by omega)) rfl _) ?_
 refine NLoop.mk [] [1, 2, 8] (fun m vs H => ∃ k, k ≤ j + 1 - v.length ∧ m = (j + 1 - v.length) - k ∧ H = [.row .vrow .leaf ((v ++ List.replicate k 0).map i64)] ∧ vs = [i64 j, i64 n, .own 0 0 (v.length + k)]) rfl ?_ ?_
 ·exact Canon.mk [0] rfl ⟨_, 0, Nat.zero_le _, rfl, by simp, rfl⟩
 ·rintro m vs H ⟨k, hk, rfl, rfl, rfl⟩
  refine NB.dec (fun h1 => ?_) (fun h1 => ?_)
  ·refine NFz.own ?_
   refine NApp.endA (by simp) (by simp; omega) ?_
   refine Canon.mk [1] rfl ⟨j + 1 - v.length - (k + 1), by omega, k + 1, by omega, rfl, ?_, ?_⟩
   ·rw [List.replicate_succ', ← List.append_assoc, List.map_append (l₁ := v ++ List.replicate k 0)]; rfl
   ·have hlen : ∀ z : AV, ((v ++ List.replicate k 0).map i64 ++ [z]).length = v.length + (k + 1) := fun z => by
     simp only [List.length_append, List.length_map, List.length_replicate, List.length_cons, List.length_nil]; omega
    exact congrArg (fun x => [i64 j, i64 n, AV.own 0 0 x]) (hlen _)
  ·have hk' : k = j + 1 - v.length := by omega
   subst hk'
   have hvs : ((v ++ List.replicate (j + 1 - v.length) 0).map i64).set (0 + (j : Int).toNat) (AV.int .i64 n) = (vset v j n).map i64 := by
    rw [vset, List.map_set, Int.toNat_natCast, Nat.zero_add]; rfl
   have hvl : (vset v j n).length = v.length + (j + 1 - v.length) := by simp [vset]
   refine NP.mk (by (simp only [zLm, zLa, zLr, zLc, zLn, zLt, zLd]; omega)) ?_
   refine NG.mapN (by (simp only [zLm, zLa, zLr, zLc, zLn, zLt, zLd]; omega)) ?_
   refine NCall.frzAllN [0] (vecTrim_walk (vset v j n) (by omega)) (.cons (.own (by simp) rfl (by simp) (by simp) (by rw [List.drop_zero, hvs, List.take_of_length_le (by simp; omega)])) .nil) rfl rfl rfl ?_
   exact NRet.mk [] rfl ⟨.refl _, rfl⟩
theorem vecWith_bad (v : List Int) (node n : Int) (h : ¬ (0 ≤ node ∧ node < 8 ∧ 0 ≤ n ∧ n ≤ 1073741824)) : ACalls Tryz.prog Nm.vec_With [ints v, i64 node, i64 n] [] (.tup [ints [], i64 1]) [] := by
 refine ACalls_of tab (dr_snd tab mixed) Nm.vec_With_h rfl (by kernel_rfl) (Nat.le_of_ble_eq_true rfl) rfl ?_
 refine NB.dec (fun hk1 => ?_) (fun hk1 => ?_)
 ·exact NRet.mk [] rfl ⟨by repeat (first | exact LeA.refl _ | exact LeA.nils _ | refine LeA.agg ?_ | refine LeA.tup ?_ | exact LeAs.nil | refine LeAs.cons ?_ ?_), rfl⟩
 refine NB.dec (fun hk2 => ?_) (fun hk2 => ?_)
 ·exact NRet.mk [] rfl ⟨by repeat (first | exact LeA.refl _ | exact LeA.nils _ | refine LeA.agg ?_ | refine LeA.tup ?_ | exact LeAs.nil | refine LeAs.cons ?_ ?_), rfl⟩
 refine NB.dec (fun hk3 => ?_) (fun hk3 => ?_)
 ·exact NRet.mk [] rfl ⟨by repeat (first | exact LeA.refl _ | exact LeA.nils _ | refine LeA.agg ?_ | refine LeA.tup ?_ | exact LeAs.nil | refine LeAs.cons ?_ ?_), rfl⟩
 refine ND.yes (by omega) ?_
 exact NRet.mk [] rfl ⟨by repeat (first | exact LeA.refl _ | exact LeA.nils _ | refine LeA.agg ?_ | refine LeA.tup ?_ | exact LeAs.nil | refine LeAs.cons ?_ ?_), rfl⟩
theorem equal7_walk (a b : List Int) (ha : a.length ≤ 2 ^ 40) : ACalls Tryz.prog Nm.ref07_Equal [ints a, ints b] [] (.bool (decide (a = b))) [] := by
 refine ACalls_of tab (dr_snd tab mixed) Nm.ref07_Equal_h rfl (by kernel_rfl) (Nat.le_of_ble_eq_true rfl) rfl ?_
 refine NB.dec (fun h => ?_) (fun h => ?_)
 ·have hab : a.length = b.length := by simp only [List.length_map] at h; omega
  refine NLoop.mk [] [0, 1, 5] (fun m vs H => ∃ i, i ≤ a.length ∧ m = a.length - i ∧ a.take i = b.take i ∧ H = [] ∧ vs = [ints a, ints b, i64 i]) rfl ?_ ?_
  ·exact Canon.mk [] rfl ⟨a.length, 0, Nat.zero_le _, rfl, rfl, rfl, rfl⟩
  ·rintro m vs H ⟨i, hi, rfl, ht, rfl, rfl⟩
   refine NB.dec (fun h => ?_) (fun h => ?_)
   ·have hi' : i < a.length := by simpa using h
    have hib : i < b.length := by omega
    by_cases hk1 : a[i] = b[i]
    rotate_left
    ·have : a ≠ b := fun e => by subst e; exact hk1 rfl
     rw [decide_eq_false this]
     refine NP.mk (by kernel_rfl) ?_
     refine NDr.w _ ?_
     refine NDr.w _ ?_
     apply NDr.pure
     ·refine NP.mk (by omega) ?_
      refine NG.mapN (by omega) ?_
      exact ⟨rfl, rfl⟩
     refine NDr.w _ ?_
     refine NDr.w _ ?_
     refine NDr.w _ ?_
     apply NDr.pure
     ·refine NP.mk (by omega) ?_
      refine NG.mapN (by omega) ?_
      exact ⟨rfl, rfl⟩
     refine NDr.w _ ?_
     apply NDr.pure
     ·refine ND.no (by omega) ?_
      exact ⟨rfl, rfl⟩
     refine NP.mk (by kernel_rfl) ?_
     exact NRet.mk [] rfl ⟨.refl _, rfl⟩
    ·refine NP.mk (by kernel_rfl) ?_
     refine NDr.w _ ?_
     refine NDr.w _ ?_
     apply NDr.pure
     ·refine NP.mk (by omega) ?_
      refine NG.mapN (by omega) ?_
      exact ⟨rfl, rfl⟩
     refine NDr.w _ ?_
     refine NDr.w _ ?_
     refine NDr.w _ ?_
     apply NDr.pure
     ·refine NP.mk (by omega) ?_
      refine NG.mapN (by omega) ?_
      exact ⟨rfl, rfl⟩
     refine NDr.w _ ?_
     apply NDr.pure
     ·refine ND.yes (by omega) ?_
      exact ⟨rfl, rfl⟩
     refine NP.mk (by kernel_rfl) ?_
     refine NW.w ?_
     refine Canon.mk [] rfl ⟨a.length - (i + 1), by omega, i + 1, by omega, rfl, ?_, rfl, rfl⟩
     rw [List.take_succ_eq_append_getElem hi', List.take_succ_eq_append_getElem hib, ht]
     rw [hk1]
   ·have : i = a.length := by simp only [List.length_map] at h; omega
    subst this
    rw [hab, List.take_length, ← hab, List.take_length] at ht
    rw [decide_eq_true ht]
    exact NRet.mk [] rfl ⟨.refl _, rfl⟩
 ·have hab : a ≠ b := fun e => h (by subst e; rfl)
  rw [decide_eq_false hab]
  exact NRet.mk [] rfl ⟨.refl _, rfl⟩
end Go.Bv
namespace Go.Bv
set_option linter.unusedSimpArgs false
set_option linter.unusedVariables false
set_option maxHeartbeats 4000000
open Go Go.Proofs
theorem copy7_walk (v : List Int) (hl : v.length ≤ 2 ^ 40) : ACalls Tryz.prog Nm.ref07_Copy [ints v] [] (ints v) [] := by
 refine ACalls_of tab (dr_snd tab mixed) Nm.ref07_Copy_h rfl (by kernel_rfl) (Nat.le_of_ble_eq_true rfl) rfl ?_
 refine NFz.own ?_
 refine NApp.endA rfl (by simp; omega) ?_
 exact NRet.mk [] rfl (NFrz.mk (v.map i64) (by simp) (by rw [List.drop_zero, List.take_of_length_le (by simp)]) ⟨.refl _, rfl⟩)
theorem at7_walk (v : List Int) (n : Int) (hl : v.length ≤ 2 ^ 40) : ACalls Tryz.prog Nm.ref07_At [ints v, i64 n] [] (i64 (vatI v n)) [] := by
 refine ACalls_of tab (dr_snd tab mixed) Nm.ref07_At_h rfl (by kernel_rfl) (Nat.le_of_ble_eq_true rfl) rfl ?_
 refine NLoop.mk [] [0, 1, 5] (fun m vs H => ∃ i, i ≤ v.length ∧ m = v.length - i ∧ (∀ j : Nat, j < i → (j : Int) = n → vat v j = 0) ∧ H = [] ∧ vs = [ints v, i64 n, i64 i]) rfl ?_ ?_
 ·exact Canon.mk [] rfl ⟨v.length, 0, Nat.zero_le _, rfl, fun j hj => by omega, rfl, rfl⟩
 ·rintro m vs H ⟨i, hi, rfl, ht, rfl, rfl⟩
  refine NB.dec (fun h1 => ?_) (fun h1 => ?_)
  ·have hi' : i < v.length := by simp only [List.length_map] at h1; omega
   have hvi := vat_in hi'
   skip
   refine NB.dec (fun h2 => ?_) (fun h2 => ?_)
   ·subst h2
    rw [vatI_nat]
    refine NP.mk (by omega) ?_
    refine NG.mapN (by omega) ?_
    refine NB.dec (fun h3 => ?_) (fun h3 => ?_)
    ·rw [hvi, show max v[i] 0 = v[i] by omega]
     refine NP.mk (by omega) ?_
     refine NG.mapN (by omega) ?_
     exact NRet.mk [] rfl ⟨.refl _, rfl⟩
    ·refine NW.w ?_
     exact Canon.mk [] rfl ⟨v.length - (i + 1), by omega, i + 1, by omega, rfl, fun j hj hji => by
      rw [show j = i by omega, hvi]; omega, rfl, rfl⟩
   ·refine NW.w ?_
    exact Canon.mk [] rfl ⟨v.length - (i + 1), by omega, i + 1, by omega, rfl, fun j hj hji => by
     rcases Nat.lt_or_ge j i with h | h
     ·exact ht j h hji
     ·omega, rfl, rfl⟩
  ·have : vatI v n = 0 := by
    unfold vatI
    split
    ·rfl
    ·rcases Nat.lt_or_ge n.toNat v.length with h | h
     ·exact ht n.toNat (by simp only [List.length_map] at h1; omega) (by omega)
     ·exact vat_out h
   rw [this]
   exact NRet.mk [] rfl ⟨.refl _, rfl⟩
theorem trim7_walk (v : List Int) (hl : v.length ≤ 2 ^ 40) : ACalls Tryz.prog Nm.ref07_Trim [ints v] [] (ints (trim v)) [] := by
 refine ACalls_of tab (dr_snd tab mixed) Nm.ref07_Trim_h rfl (by kernel_rfl) (Nat.le_of_ble_eq_true rfl) rfl ?_
 refine NLoop.mk [] [0, 3, 4] (fun m vs H => ∃ (i n : Nat), i ≤ v.length ∧ m = v.length - i ∧ n ≤ i ∧ (∀ j, n ≤ j → j < i → vat v j = 0) ∧ (n = 0 ∨ 0 < vat v (n - 1)) ∧ H = [] ∧ vs = [ints v, i64 ((n : Int) - 1), i64 i]) rfl ?_ ?_
 ·exact Canon.mk [] rfl ⟨v.length, 0, 0, Nat.zero_le _, rfl, Nat.le_refl _, fun j hj hj' => by omega, .inl rfl, rfl, rfl⟩
 ·rintro m vs H ⟨i, n, hi, rfl, hni, hz, hp, rfl, rfl⟩
  refine NB.dec (fun h1 => ?_) (fun h1 => ?_)
  ·have hi' : i < v.length := by simp only [List.length_map] at h1; omega
   have hv := vat_in hi'
   refine NP.mk (by omega) (NG.mapN hi' ?_)
   refine NB.dec (fun h2 => ?_) (fun h2 => ?_)
   ·refine NW.w ?_
    refine Canon.mk [] rfl ⟨v.length - (i + 1), by omega, i + 1, i + 1, by omega, rfl, Nat.le_refl _, fun j hj hj' => by omega, .inr (by rw [Nat.add_sub_cancel]; omega), rfl, ?_⟩
    rw [show (((i + 1 : Nat) : Int) - 1) = (i : Int) by omega]; rfl
   ·refine NW.w ?_
    refine Canon.mk [] rfl ⟨v.length - (i + 1), by omega, i + 1, n, by omega, rfl, by omega, fun j hj hj' => ?_, hp, rfl, rfl⟩
    rcases Nat.lt_or_ge j i with h | h
    ·exact hz j hj h
    ·rw [show j = i by omega, hv]; omega
  ·have hii : i = v.length := by simp only [List.length_map] at h1; omega
   subst hii
   have htr := trim_range (v := v) (n := n) (fun j hj => by
    rcases Nat.lt_or_ge j v.length with h | h
    ·exact hz j hj h
    ·exact vat_out h) hp
   rw [htr]
   refine NLoop.mk [(5, .leaf)] [0, 3, 5, 6] (fun m vs H => ∃ k, k ≤ n ∧ m = n - k ∧ H = [.row .vrow .leaf ((tab0 (vat v) k).map i64)] ∧ vs = [ints v, i64 ((n : Int) - 1), .own 0 0 k, i64 k]) rfl ?_ ?_
   ·exact Canon.mk [0] rfl ⟨n, 0, Nat.zero_le _, rfl, rfl, rfl⟩
   ·rintro q vs H ⟨k, hk, rfl, rfl, rfl⟩
    have htl := tab0_len (vat v) k
    refine NB.dec (fun h2 => ?_) (fun h2 => ?_)
    ·have ha := at7_walk v k hl
     rw [vatI_nat] at ha
     refine NCall.call (ha) rfl rfl ?_
     refine NFz.own ?_
     refine NApp.endA (by simp; omega) (by simp; omega) ?_
     refine NW.w ?_
     refine Canon.mk [1] rfl ⟨n - (k + 1), by omega, k + 1, by omega, rfl, ?_, ?_⟩
     ·rw [tab0_succ, List.map_append]; rfl
     ·have hlen : ∀ z : AV, ((tab0 (vat v) k).map i64 ++ [z]).length = k + 1 := fun z => by simp [htl]
      exact congrArg (fun x => [ints v, i64 ((n : Int) - 1), AV.own 0 0 x, i64 ((k : Int) + 1)]) (hlen _)
    ·have : k = n := by omega
     subst this
     skip
     exact NRet.mk [] rfl (NFrz.mk ((tab0 (vat v) k).map i64) (by simp [htl]) (by rw [List.drop_zero, List.take_of_length_le (by simp [htl])]) ⟨.refl _, rfl⟩)
theorem lay7_walk (a b : List Int) (up : Bool) (ha : a.length ≤ 2 ^ 39) (hb : b.length ≤ 2 ^ 39) : ACalls Tryz.prog Nm.ref07_Lay [ints a, ints b, .bool up] [] (ints (if up then join a b else meet a b)) [] := by
 refine ACalls_of tab (dr_snd tab mixed) Nm.ref07_Lay_h rfl (by kernel_rfl) (Nat.le_of_ble_eq_true rfl) rfl ?_
 cases up
 ·-- down
  refine NLoop.mk [(7, .leaf)] [0, 1, 2, 7, 8] (fun m vs H => ∃ i, i ≤ max a.length b.length ∧ m = max a.length b.length - i ∧ H = [.row .vrow .leaf ((tab0 (fun k => min (vat a k) (vat b k)) i).map i64)] ∧ vs = [ints a, ints b, .bool false, .own 0 0 i, i64 i]) rfl ?_ ?_
  ·exact Canon.mk [0] rfl ⟨_, 0, Nat.zero_le _, rfl, rfl, rfl⟩
  ·rintro q vs H ⟨i, hi, rfl, rfl, rfl⟩
   have htl := tab0_len (fun k => min (vat a k) (vat b k)) i
   have h2 := at7_walk a i (by omega)
   have h3 := at7_walk b i (by omega)
   rw [vatI_nat] at h2 h3
   have hlen : ∀ z : AV, ((tab0 (fun k => min (vat a k) (vat b k)) i).map i64 ++ [z]).length = i + 1 := fun z => by simp [htl]
   have fin : ∀ z : Int, z = min (vat a i) (vat b i) → [Blk.row .vrow .leaf ((tab0 (fun k => min (vat a k) (vat b k)) i).map i64 ++ [.int .i64 z])] = [.row .vrow .leaf ((tab0 (fun k => min (vat a k) (vat b k)) (i + 1)).map i64)] := fun z hz => by
    rw [tab0_succ, List.map_append, hz]; rfl
   by_cases hin : i < max a.length b.length
   ·have body : i < a.length ∨ (¬ i < a.length ∧ i < b.length) := by omega
    rcases body with hA | ⟨hA, hB⟩
    ·refine ND.yes (by (simp only [zLm, zLa, zLr, zLc, zLn, zLt, zLd]; omega)) ?_
     refine NCall.call (h2) rfl rfl ?_
     refine NCall.call (h3) rfl rfl ?_
     refine NB.dec (fun h => ?_) (fun h => ?_)
     ·have hc : vat a i < vat b i := by simpa using h
      refine ND.no (by simp) ?_
      refine NFz.own ?_
      refine NApp.endA (by simp; omega) (by simp; omega) ?_
      refine NW.w ?_
      exact Canon.mk [1] rfl ⟨max a.length b.length - (i + 1), by omega, i + 1, by omega, rfl, fin _ (by omega), congrArg (fun x => [ints a, ints b, .bool false, AV.own 0 0 x, i64 ((i : Int) + 1)]) (hlen _)⟩
     ·have hc : vat b i ≤ vat a i := by simpa using h
      refine ND.yes (by simp) ?_
      refine NFz.own ?_
      refine NApp.endA (by simp; omega) (by simp; omega) ?_
      refine NW.w ?_
      exact Canon.mk [1] rfl ⟨max a.length b.length - (i + 1), by omega, i + 1, by omega, rfl, fin _ (by omega), congrArg (fun x => [ints a, ints b, .bool false, AV.own 0 0 x, i64 ((i : Int) + 1)]) (hlen _)⟩
    ·refine ND.no (by (simp only [zLm, zLa, zLr, zLc, zLn, zLt, zLd]; omega)) ?_
     refine ND.yes (by (simp only [zLm, zLa, zLr, zLc, zLn, zLt, zLd]; omega)) ?_
     refine NCall.call (h2) rfl rfl ?_
     refine NCall.call (h3) rfl rfl ?_
     refine NB.dec (fun h => ?_) (fun h => ?_)
     ·have hc : vat a i < vat b i := by simpa using h
      refine ND.no (by simp) ?_
      refine NFz.own ?_
      refine NApp.endA (by simp; omega) (by simp; omega) ?_
      refine NW.w ?_
      exact Canon.mk [1] rfl ⟨max a.length b.length - (i + 1), by omega, i + 1, by omega, rfl, fin _ (by omega), congrArg (fun x => [ints a, ints b, .bool false, AV.own 0 0 x, i64 ((i : Int) + 1)]) (hlen _)⟩
     ·have hc : vat b i ≤ vat a i := by simpa using h
      refine ND.yes (by simp) ?_
      refine NFz.own ?_
      refine NApp.endA (by simp; omega) (by simp; omega) ?_
      refine NW.w ?_
      exact Canon.mk [1] rfl ⟨max a.length b.length - (i + 1), by omega, i + 1, by omega, rfl, fin _ (by omega), congrArg (fun x => [ints a, ints b, .bool false, AV.own 0 0 x, i64 ((i : Int) + 1)]) (hlen _)⟩

   ·have : i = max a.length b.length := by omega
    refine ND.no (by (simp only [zLm, zLa, zLr, zLc, zLn, zLt, zLd]; omega)) ?_
    refine ND.no (by (simp only [zLm, zLa, zLr, zLc, zLn, zLt, zLd]; omega)) ?_
    refine NCall.frzAllN [0] (trim7_walk (tab0 (fun k => min (vat a k) (vat b k)) i) (by omega)) (.cons (.own (by simp) rfl (by simp) (by simp; omega) (by rw [List.drop_zero, List.take_of_length_le (by simp; omega)])) .nil) rfl rfl rfl ?_
    subst this
    exact NRet.mk [] rfl ⟨.refl _, rfl⟩
 ·-- up
  refine NLoop.mk [(7, .leaf)] [0, 1, 2, 7, 8] (fun m vs H => ∃ i, i ≤ max a.length b.length ∧ m = max a.length b.length - i ∧ H = [.row .vrow .leaf ((tab0 (fun k => max (vat a k) (vat b k)) i).map i64)] ∧ vs = [ints a, ints b, .bool true, .own 0 0 i, i64 i]) rfl ?_ ?_
  ·exact Canon.mk [0] rfl ⟨_, 0, Nat.zero_le _, rfl, rfl, rfl⟩
  ·rintro q vs H ⟨i, hi, rfl, rfl, rfl⟩
   have htl := tab0_len (fun k => max (vat a k) (vat b k)) i
   have h2 := at7_walk a i (by omega)
   have h3 := at7_walk b i (by omega)
   rw [vatI_nat] at h2 h3
   have hlen : ∀ z : AV, ((tab0 (fun k => max (vat a k) (vat b k)) i).map i64 ++ [z]).length = i + 1 := fun z => by simp [htl]
   have fin : ∀ z : Int, z = max (vat a i) (vat b i) → [Blk.row .vrow .leaf ((tab0 (fun k => max (vat a k) (vat b k)) i).map i64 ++ [.int .i64 z])] = [.row .vrow .leaf ((tab0 (fun k => max (vat a k) (vat b k)) (i + 1)).map i64)] := fun z hz => by
    rw [tab0_succ, List.map_append, hz]; rfl
   by_cases hin : i < max a.length b.length
   ·have body : i < a.length ∨ (¬ i < a.length ∧ i < b.length) := by omega
    rcases body with hA | ⟨hA, hB⟩
    ·refine ND.yes (by (simp only [zLm, zLa, zLr, zLc, zLn, zLt, zLd]; omega)) ?_
     refine NCall.call (h2) rfl rfl ?_
     refine NCall.call (h3) rfl rfl ?_
     refine NB.dec (fun h => ?_) (fun h => ?_)
     ·have hc : vat a i < vat b i := by simpa using h
      refine ND.yes (by simp) ?_
      refine NFz.own ?_
      refine NApp.endA (by simp; omega) (by simp; omega) ?_
      refine NW.w ?_
      exact Canon.mk [1] rfl ⟨max a.length b.length - (i + 1), by omega, i + 1, by omega, rfl, fin _ (by omega), congrArg (fun x => [ints a, ints b, .bool true, AV.own 0 0 x, i64 ((i : Int) + 1)]) (hlen _)⟩
     ·have hc : vat b i ≤ vat a i := by simpa using h
      refine ND.no (by simp) ?_
      refine NFz.own ?_
      refine NApp.endA (by simp; omega) (by simp; omega) ?_
      refine NW.w ?_
      exact Canon.mk [1] rfl ⟨max a.length b.length - (i + 1), by omega, i + 1, by omega, rfl, fin _ (by omega), congrArg (fun x => [ints a, ints b, .bool true, AV.own 0 0 x, i64 ((i : Int) + 1)]) (hlen _)⟩
    ·refine ND.no (by (simp only [zLm, zLa, zLr, zLc, zLn, zLt, zLd]; omega)) ?_
     refine ND.yes (by (simp only [zLm, zLa, zLr, zLc, zLn, zLt, zLd]; omega)) ?_
     refine NCall.call (h2) rfl rfl ?_
     refine NCall.call (h3) rfl rfl ?_
     refine NB.dec (fun h => ?_) (fun h => ?_)
     ·have hc : vat a i < vat b i := by simpa using h
      refine ND.yes (by simp) ?_
      refine NFz.own ?_
      refine NApp.endA (by simp; omega) (by simp; omega) ?_
      refine NW.w ?_
      exact Canon.mk [1] rfl ⟨max a.length b.length - (i + 1), by omega, i + 1, by omega, rfl, fin _ (by omega), congrArg (fun x => [ints a, ints b, .bool true, AV.own 0 0 x, i64 ((i : Int) + 1)]) (hlen _)⟩
     ·have hc : vat b i ≤ vat a i := by simpa using h
      refine ND.no (by simp) ?_
      refine NFz.own ?_
      refine NApp.endA (by simp; omega) (by simp; omega) ?_
      refine NW.w ?_
      exact Canon.mk [1] rfl ⟨max a.length b.length - (i + 1), by omega, i + 1, by omega, rfl, fin _ (by omega), congrArg (fun x => [ints a, ints b, .bool true, AV.own 0 0 x, i64 ((i : Int) + 1)]) (hlen _)⟩

   ·have : i = max a.length b.length := by omega
    refine ND.no (by (simp only [zLm, zLa, zLr, zLc, zLn, zLt, zLd]; omega)) ?_
    refine ND.no (by (simp only [zLm, zLa, zLr, zLc, zLn, zLt, zLd]; omega)) ?_
    refine NCall.frzAllN [0] (trim7_walk (tab0 (fun k => max (vat a k) (vat b k)) i) (by omega)) (.cons (.own (by simp) rfl (by simp) (by simp; omega) (by rw [List.drop_zero, List.take_of_length_le (by simp; omega)])) .nil) rfl rfl rfl ?_
    subst this
    exact NRet.mk [] rfl ⟨.refl _, rfl⟩
theorem same7_walk (a b : List Int) (ha : a.length ≤ 2 ^ 39) (hb : b.length ≤ 2 ^ 39) : ACalls Tryz.prog Nm.ref07_Same [ints a, ints b] [] (.bool (decide (trim a = trim b))) [] := by
 refine ACalls_of tab (dr_snd tab mixed) Nm.ref07_Same_h rfl (by kernel_rfl) (Nat.le_of_ble_eq_true rfl) rfl ?_
 refine NLoop.mk [] [0, 1, 5] (fun m vs H => ∃ i, i ≤ max a.length b.length ∧ m = max a.length b.length - i ∧ (∀ j, j < i → vat a j = vat b j) ∧ H = [] ∧ vs = [ints a, ints b, i64 i]) rfl ?_ ?_
 ·exact Canon.mk [] rfl ⟨_, 0, Nat.zero_le _, rfl, fun j hj => by omega, rfl, rfl⟩
 ·rintro q vs H ⟨i, hi, rfl, ht, rfl, rfl⟩
  have h2 := at7_walk a i (by omega)
  have h3 := at7_walk b i (by omega)
  rw [vatI_nat] at h2 h3
  have neq : vat a i ≠ vat b i → decide (trim a = trim b) = false := fun hne => decide_eq_false fun e => hne (by rw [← vat_trim a, ← vat_trim b, e])
  have nxt : vat a i = vat b i → ∀ j, j < i + 1 → vat a j = vat b j := fun he j hj => by
   rcases Nat.lt_or_ge j i with h | h
   ·exact ht j h
   ·rw [show j = i by omega]; exact he
  by_cases hin : i < max a.length b.length
  ·have body : i < a.length ∨ (¬ i < a.length ∧ i < b.length) := by omega
   rcases body with hA | ⟨hA, hB⟩
   ·refine ND.yes (by (simp only [zLm, zLa, zLr, zLc, zLn, zLt, zLd]; omega)) ?_
    refine NCall.call (h2) rfl rfl ?_
    refine NCall.call (h3) rfl rfl ?_
    refine NB.dec (fun hc => ?_) (fun hc => ?_)
    ·refine NW.w ?_
     exact Canon.mk [] rfl ⟨max a.length b.length - (i + 1), by omega, i + 1, by omega, rfl, nxt hc, rfl, rfl⟩
    ·rw [neq hc]
     exact NRet.mk [] rfl ⟨.refl _, rfl⟩
   ·refine ND.no (by (simp only [zLm, zLa, zLr, zLc, zLn, zLt, zLd]; omega)) ?_
    refine ND.yes (by (simp only [zLm, zLa, zLr, zLc, zLn, zLt, zLd]; omega)) ?_
    refine NCall.call (h2) rfl rfl ?_
    refine NCall.call (h3) rfl rfl ?_
    refine NB.dec (fun hc => ?_) (fun hc => ?_)
    ·refine NW.w ?_
     exact Canon.mk [] rfl ⟨max a.length b.length - (i + 1), by omega, i + 1, by omega, rfl, nxt hc, rfl, rfl⟩
    ·rw [neq hc]
     exact NRet.mk [] rfl ⟨.refl _, rfl⟩
  ·have : decide (trim a = trim b) = true := decide_eq_true (trim_ext _ _ fun j => by
    rcases Nat.lt_or_ge j i with h | h
    ·exact ht j h
    ·rw [vat_out (by omega), vat_out (by omega)])
   rw [this]
   refine ND.no (by (simp only [zLm, zLa, zLr, zLc, zLn, zLt, zLd]; omega)) ?_
   refine ND.no (by (simp only [zLm, zLa, zLr, zLc, zLn, zLt, zLd]; omega)) ?_
   exact NRet.mk [] rfl ⟨.refl _, rfl⟩
theorem with7_walk (v : List Int) (node n : Int) (hl : v.length ≤ 2 ^ 39) (h : 0 ≤ node ∧ node < 8 ∧ 0 ≤ n ∧ n ≤ 1073741824) : ACalls Tryz.prog Nm.ref07_With [ints v, i64 node, i64 n] [] (.tup [ints (trim (vset v node.toNat n)), i64 0]) [] := by
 refine ACalls_of tab (dr_snd tab mixed) Nm.ref07_With_h rfl (by kernel_rfl) (Nat.le_of_ble_eq_true rfl) rfl ?_
 obtain ⟨j, rfl⟩ : ∃ j : Nat, node = j := ⟨node.toNat, by omega⟩
 rw [Int.toNat_natCast]
 refine ND.no (by omega) ?_
 refine ND.no (by omega) ?_
 refine ND.no (by omega) ?_
 refine ND.no (by omega) ?_
 refine NLoop.mk [(8, .leaf)] [0, 1, 2, 8, 9] (fun m vs H => ∃ i, i ≤ max v.length (j + 1) ∧ m = max v.length (j + 1) - i ∧ H = [.row .vrow .leaf ((tab0 (fun k => if k = j then n else vat v k) i).map i64)] ∧ vs = [ints v, i64 j, i64 n, .own 0 0 i, i64 i]) rfl ?_ ?_
 ·exact Canon.mk [0] rfl ⟨_, 0, Nat.zero_le _, rfl, rfl, rfl⟩
 ·rintro q vs H ⟨i, hi, rfl, rfl, rfl⟩
  have htl := tab0_len (fun k => if k = j then n else vat v k) i
  have h2 := at7_walk v i (by omega)
  rw [vatI_nat] at h2
  have hlen : ∀ z : AV, ((tab0 (fun k => if k = j then n else vat v k) i).map i64 ++ [z]).length = i + 1 := fun z => by simp [htl]
  have fin : ∀ z : Int, z = (if i = j then n else vat v i) → [Blk.row .vrow .leaf ((tab0 (fun k => if k = j then n else vat v k) i).map i64 ++ [.int .i64 z])] = [.row .vrow .leaf ((tab0 (fun k => if k = j then n else vat v k) (i + 1)).map i64)] := fun z hz => by
   rw [tab0_succ, List.map_append, hz]; rfl
  have finv : ∀ z : AV, [ints v, i64 j, i64 n, AV.own 0 0 ((tab0 (fun k => if k = j then n else vat v k) i).map i64 ++ [z]).length, i64 ((i : Int) + 1)] = [ints v, i64 j, i64 n, AV.own 0 0 (i + 1), i64 ((i : Int) + 1)] := fun z => by rw [hlen z]
  by_cases hin : i < max v.length (j + 1)
  ·have body : i < v.length ∨ (¬ i < v.length ∧ i ≤ j) := by omega
   rcases body with hA | ⟨hA, hB⟩
   ·by_cases he : i = j
    ·refine ND.yes (by (simp only [zLm, zLa, zLr, zLc, zLn, zLt, zLd]; omega)) ?_
     refine ND.yes (by omega) ?_
     refine NFz.own ?_
     refine NApp.endA (by simp; omega) (by simp; omega) ?_
     refine NW.w ?_
     exact Canon.mk [1] rfl ⟨max v.length (j + 1) - (i + 1), by omega, i + 1, by omega, rfl, fin _ (by rw [if_pos he]), finv _⟩
    ·refine ND.yes (by (simp only [zLm, zLa, zLr, zLc, zLn, zLt, zLd]; omega)) ?_
     refine ND.no (by omega) ?_
     refine NCall.call (h2) rfl rfl ?_
     refine NFz.own ?_
     refine NApp.endA (by simp; omega) (by simp; omega) ?_
     refine NW.w ?_
     exact Canon.mk [1] rfl ⟨max v.length (j + 1) - (i + 1), by omega, i + 1, by omega, rfl, fin _ (by rw [if_neg he]), finv _⟩
   ·by_cases he : i = j
    ·refine ND.no (by (simp only [zLm, zLa, zLr, zLc, zLn, zLt, zLd]; omega)) ?_
     refine ND.yes (by omega) ?_
     refine ND.yes (by omega) ?_
     refine NFz.own ?_
     refine NApp.endA (by simp; omega) (by simp; omega) ?_
     refine NW.w ?_
     exact Canon.mk [1] rfl ⟨max v.length (j + 1) - (i + 1), by omega, i + 1, by omega, rfl, fin _ (by rw [if_pos he]), finv _⟩
    ·refine ND.no (by (simp only [zLm, zLa, zLr, zLc, zLn, zLt, zLd]; omega)) ?_
     refine ND.yes (by omega) ?_
     refine ND.no (by omega) ?_
     refine NCall.call (h2) rfl rfl ?_
     refine NFz.own ?_
     refine NApp.endA (by simp; omega) (by simp; omega) ?_
     refine NW.w ?_
     exact Canon.mk [1] rfl ⟨max v.length (j + 1) - (i + 1), by omega, i + 1, by omega, rfl, fin _ (by rw [if_neg he]), finv _⟩
  ·have hiN : i = max v.length (j + 1) := by omega
   have et : trim (tab0 (fun k => if k = j then n else vat v k) i) = trim (vset v j n) := trim_ext _ _ fun k => by
    rw [vat_tab0, vat_vset _ _ _ h.2.2.1]
    have := vat_nonneg v k
    split
    ·split <;> omega
    ·rw [if_neg (by omega), vat_out (by omega)]
   have htr := trim7_walk (tab0 (fun k => if k = j then n else vat v k) i) (by omega)
   rw [et] at htr
   refine ND.no (by (simp only [zLm, zLa, zLr, zLc, zLn, zLt, zLd]; omega)) ?_
   refine ND.no (by omega) ?_
   refine NCall.frzAllN [0] htr (.cons (.own (by simp) rfl (by simp) (by simp; omega) (by rw [List.drop_zero, List.take_of_length_le (by simp; omega)])) .nil) rfl rfl rfl ?_
   exact NRet.mk [] rfl ⟨.refl _, rfl⟩
theorem with7_bad (v : List Int) (node n : Int) (h : ¬ (0 ≤ node ∧ node < 8 ∧ 0 ≤ n ∧ n ≤ 1073741824)) : ACalls Tryz.prog Nm.ref07_With [ints v, i64 node, i64 n] [] (.tup [ints [], i64 1]) [] := by
 refine ACalls_of tab (dr_snd tab mixed) Nm.ref07_With_h rfl (by kernel_rfl) (Nat.le_of_ble_eq_true rfl) rfl ?_
 refine NB.dec (fun hk1 => ?_) (fun hk1 => ?_)
 ·exact NRet.mk [] rfl ⟨by repeat (first | exact LeA.refl _ | exact LeA.nils _ | refine LeA.agg ?_ | refine LeA.tup ?_ | exact LeAs.nil | refine LeAs.cons ?_ ?_), rfl⟩
 refine NB.dec (fun hk2 => ?_) (fun hk2 => ?_)
 ·exact NRet.mk [] rfl ⟨by repeat (first | exact LeA.refl _ | exact LeA.nils _ | refine LeA.agg ?_ | refine LeA.tup ?_ | exact LeAs.nil | refine LeAs.cons ?_ ?_), rfl⟩
 refine NB.dec (fun hk3 => ?_) (fun hk3 => ?_)
 ·exact NRet.mk [] rfl ⟨by repeat (first | exact LeA.refl _ | exact LeA.nils _ | refine LeA.agg ?_ | refine LeA.tup ?_ | exact LeAs.nil | refine LeAs.cons ?_ ?_), rfl⟩
 refine ND.yes (by omega) ?_
 exact NRet.mk [] rfl ⟨by repeat (first | exact LeA.refl _ | exact LeA.nils _ | refine LeA.agg ?_ | refine LeA.tup ?_ | exact LeAs.nil | refine LeAs.cons ?_ ?_), rfl⟩
theorem within7_walk (a b : List Int) (ha : a.length ≤ 2 ^ 38) (hb : b.length ≤ 2 ^ 38) : ACalls Tryz.prog Nm.ref07_Within [ints a, ints b] [] (.bool (vwithin a b)) [] := by
 refine ACalls_of tab (dr_snd tab mixed) Nm.ref07_Within_h rfl (by kernel_rfl) (Nat.le_of_ble_eq_true rfl) rfl ?_
 have hl := join_len a b
 have e : decide (trim (join a b) = trim b) = vwithin a b := by
  rw [Bool.eq_iff_iff, vwithin_iff, decide_eq_true_eq]
  refine ⟨fun h i => ?_, fun h => trim_ext _ _ fun i => ?_⟩
  ·have e1 : vat (trim (join a b)) i = vat (trim b) i := by rw [h]
   rw [vat_trim, vat_trim, vat_join] at e1; omega
  ·rw [vat_join]; have := h i; omega
 have h1 := lay7_walk a b true (by omega) (by omega)
 have h2 := same7_walk (join a b) b (by omega) (by omega)
 rw [if_pos rfl] at h1
 rw [e] at h2
 refine NCall.call (h1) rfl rfl ?_
 refine NCall.call (h2) rfl rfl ?_
 exact NRet.mk [] rfl ⟨.refl _, rfl⟩
end Go.Bv
namespace Go.Bv
set_option linter.unusedSimpArgs false
set_option linter.unusedVariables false
set_option maxHeartbeats 4000000
open Go Go.Proofs
def ready (v : List Int) (t : Txn) : Bool := decide (1 ≤ t.seq) && (decide (t.seq - 1 = vatI v t.node) && vwithin t.deps v)
def next (v : List Int) (t : Txn) : List Int := if 0 ≤ t.node ∧ t.node < 8 ∧ 0 ≤ t.seq ∧ t.seq ≤ 1073741824 then trim (vset v t.node.toNat t.seq) else trim v
theorem ready_walk (v : List Int) (t : Txn) (hv : v.length ≤ 2 ^ 38) (ht : t.deps.length ≤ 2 ^ 38) (hs : okInt t.seq) : ACalls Tryz.prog Nm.order_Ready [ints v, txnA t] [] (.bool (ready v t)) [] := by
 refine ACalls_of tab (dr_snd tab mixed) Nm.order_Ready_h rfl (by kernel_rfl) (Nat.le_of_ble_eq_true rfl) rfl ?_
 unfold ready
 have h1 := vecAt_walk v t.node (by omega)
 have h2 := vecWithin_walk t.deps v (by omega) (by omega)
 obtain ⟨hs1, hs2⟩ := hs
 by_cases h0 : 1 ≤ t.seq
 ·rw [decide_eq_true h0, Bool.true_and]
  by_cases h3 : t.seq - 1 = vatI v t.node
  ·rw [decide_eq_true h3, Bool.true_and]
   refine NP.mk (by kernel_rfl) ?_
   apply NDr.rd [0]
   ·intro fH TH
    exact ⟨rfl, rfl⟩
   apply NDr.rd [0]
   ·intro fH TH
    exact ⟨rfl, rfl⟩
   apply NDr.pure
   ·refine ND.yes (by omega) ?_
    exact ⟨rfl, rfl⟩
   refine NDr.w _ ?_
   apply NDr.rd [0]
   ·intro fH TH
    exact ⟨rfl, rfl⟩
   apply NDr.rd [0]
   ·intro fH TH
    exact ⟨rfl, rfl⟩
   apply NDr.pure
   ·refine NW.w ?_
    exact ⟨rfl, rfl⟩
   refine NDr.w _ ?_
   apply NDr.rd [0]
   ·intro fH TH
    exact ⟨rfl, rfl⟩
   apply NDr.rd [0]
   ·intro fH TH
    exact ⟨rfl, rfl⟩
   apply NDr.pure
   ·refine NCall.call (h1) rfl rfl ?_
    exact ⟨rfl, rfl⟩
   apply NDr.pure
   ·refine ND.yes (by omega) ?_
    exact ⟨rfl, rfl⟩
   refine NDr.w _ ?_
   refine NDr.w _ ?_
   apply NDr.rd [0]
   ·intro fH TH
    exact ⟨rfl, rfl⟩
   apply NDr.rd [0]
   ·intro fH TH
    exact ⟨rfl, rfl⟩
   refine NDr.w _ ?_
   apply NDr.pure
   ·refine NCall.call (h2) rfl rfl ?_
    exact ⟨rfl, rfl⟩
   refine NDr.w _ ?_
   refine NDr.w _ ?_
   refine NP.mk (by kernel_rfl) ?_
   exact NRet.mk [] rfl ⟨.refl _, rfl⟩
  ·rw [decide_eq_false h3, Bool.false_and]
   refine NP.mk (by kernel_rfl) ?_
   apply NDr.rd [0]
   ·intro fH TH
    exact ⟨rfl, rfl⟩
   apply NDr.rd [0]
   ·intro fH TH
    exact ⟨rfl, rfl⟩
   apply NDr.pure
   ·refine ND.yes (by omega) ?_
    exact ⟨rfl, rfl⟩
   refine NDr.w _ ?_
   apply NDr.rd [0]
   ·intro fH TH
    exact ⟨rfl, rfl⟩
   apply NDr.rd [0]
   ·intro fH TH
    exact ⟨rfl, rfl⟩
   apply NDr.pure
   ·refine NW.w ?_
    exact ⟨rfl, rfl⟩
   refine NDr.w _ ?_
   apply NDr.rd [0]
   ·intro fH TH
    exact ⟨rfl, rfl⟩
   apply NDr.rd [0]
   ·intro fH TH
    exact ⟨rfl, rfl⟩
   apply NDr.pure
   ·refine NCall.call (h1) rfl rfl ?_
    exact ⟨rfl, rfl⟩
   apply NDr.pure
   ·refine ND.no (by omega) ?_
    exact ⟨rfl, rfl⟩
   refine NDr.w _ ?_
   refine NDr.w _ ?_
   refine NDr.w _ ?_
   refine NDr.w _ ?_
   refine NP.mk (by kernel_rfl) ?_
   exact NRet.mk [] rfl ⟨.refl _, rfl⟩
 ·rw [decide_eq_false h0, Bool.false_and]
  refine NP.mk (by kernel_rfl) ?_
  apply NDr.rd [0]
  ·intro fH TH
   exact ⟨rfl, rfl⟩
  apply NDr.rd [0]
  ·intro fH TH
   exact ⟨rfl, rfl⟩
  apply NDr.pure
  ·refine ND.no (by omega) ?_
   exact ⟨rfl, rfl⟩
  refine NDr.w _ ?_
  refine NDr.w _ ?_
  refine NDr.w _ ?_
  refine NDr.w _ ?_
  refine NDr.w _ ?_
  refine NP.mk (by kernel_rfl) ?_
  exact NRet.mk [] rfl ⟨.refl _, rfl⟩
theorem dot_walk (t : Txn) : ACalls Tryz.prog Nm.txn_Dot [txnA t] [] (.agg [i64 t.node, i64 t.seq, i64 0]) [] := by
 refine ACalls_of tab (dr_snd tab mixed) Nm.txn_Dot_h rfl (by kernel_rfl) (Nat.le_of_ble_eq_true rfl) rfl ?_
 exact NRet.mk [] rfl ⟨.refl _, rfl⟩
theorem next_walk (v : List Int) (t : Txn) (hv : v.length ≤ 2 ^ 39) : ACalls Tryz.prog Nm.order_Next [ints v, txnA t] [] (ints (next v t)) [] := by
 refine ACalls_of tab (dr_snd tab mixed) Nm.order_Next_h rfl (by kernel_rfl) (Nat.le_of_ble_eq_true rfl) rfl ?_
 unfold next
 by_cases h : 0 ≤ t.node ∧ t.node < 8 ∧ 0 ≤ t.seq ∧ t.seq ≤ 1073741824
 ·rw [if_pos h]
  refine NCall.call (dot_walk t) rfl rfl ?_
  refine NCall.call (vecWith_walk v t.node t.seq hv h) rfl rfl ?_
  refine ND.yes (by omega) ?_
  exact NRet.mk [] rfl ⟨.refl _, rfl⟩
 ·rw [if_neg h]
  refine NCall.call (dot_walk t) rfl rfl ?_
  refine NCall.call (vecWith_bad v t.node t.seq h) rfl rfl ?_
  refine ND.no (by omega) ?_
  refine NCall.call (vecTrim_walk v (by omega)) rfl rfl ?_
  exact NRet.mk [] rfl ⟨.refl _, rfl⟩
theorem ready14_walk (v : List Int) (t : Txn) (hv : v.length ≤ 2 ^ 38) (ht : t.deps.length ≤ 2 ^ 38) (hs : okInt t.seq) : ACalls Tryz.prog Nm.ref14_Ready [ints v, txnA t] [] (.bool (ready v t)) [] := by
 refine ACalls_of tab (dr_snd tab mixed) Nm.ref14_Ready_h rfl (by kernel_rfl) (Nat.le_of_ble_eq_true rfl) rfl ?_
 unfold ready
 have h1 := at7_walk v t.node (by omega)
 have h2 := within7_walk t.deps v (by omega) (by omega)
 obtain ⟨hs1, hs2⟩ := hs
 by_cases h0 : 1 ≤ t.seq
 ·rw [decide_eq_true h0, Bool.true_and]
  by_cases h3 : t.seq - 1 = vatI v t.node
  ·rw [decide_eq_true h3, Bool.true_and]
   refine NP.mk (by kernel_rfl) ?_
   apply NDr.rd [0]
   ·intro fH TH
    exact ⟨rfl, rfl⟩
   apply NDr.rd [0]
   ·intro fH TH
    exact ⟨rfl, rfl⟩
   apply NDr.pure
   ·refine ND.yes (by omega) ?_
    exact ⟨rfl, rfl⟩
   refine NDr.w _ ?_
   refine NDr.w _ ?_
   apply NDr.rd [0]
   ·intro fH TH
    exact ⟨rfl, rfl⟩
   apply NDr.rd [0]
   ·intro fH TH
    exact ⟨rfl, rfl⟩
   apply NDr.pure
   ·refine NCall.call (h1) rfl rfl ?_
    exact ⟨rfl, rfl⟩
   apply NDr.rd [0]
   ·intro fH TH
    exact ⟨rfl, rfl⟩
   apply NDr.rd [0]
   ·intro fH TH
    exact ⟨rfl, rfl⟩
   apply NDr.pure
   ·refine NW.w ?_
    exact ⟨rfl, rfl⟩
   apply NDr.pure
   ·refine ND.yes (by omega) ?_
    exact ⟨rfl, rfl⟩
   refine NDr.w _ ?_
   refine NDr.w _ ?_
   apply NDr.rd [0]
   ·intro fH TH
    exact ⟨rfl, rfl⟩
   apply NDr.rd [0]
   ·intro fH TH
    exact ⟨rfl, rfl⟩
   refine NDr.w _ ?_
   apply NDr.pure
   ·refine NCall.call (h2) rfl rfl ?_
    exact ⟨rfl, rfl⟩
   refine NDr.w _ ?_
   refine NDr.w _ ?_
   refine NP.mk (by kernel_rfl) ?_
   exact NRet.mk [] rfl ⟨.refl _, rfl⟩
  ·rw [decide_eq_false h3, Bool.false_and]
   refine NP.mk (by kernel_rfl) ?_
   apply NDr.rd [0]
   ·intro fH TH
    exact ⟨rfl, rfl⟩
   apply NDr.rd [0]
   ·intro fH TH
    exact ⟨rfl, rfl⟩
   apply NDr.pure
   ·refine ND.yes (by omega) ?_
    exact ⟨rfl, rfl⟩
   refine NDr.w _ ?_
   refine NDr.w _ ?_
   apply NDr.rd [0]
   ·intro fH TH
    exact ⟨rfl, rfl⟩
   apply NDr.rd [0]
   ·intro fH TH
    exact ⟨rfl, rfl⟩
   apply NDr.pure
   ·refine NCall.call (h1) rfl rfl ?_
    exact ⟨rfl, rfl⟩
   apply NDr.rd [0]
   ·intro fH TH
    exact ⟨rfl, rfl⟩
   apply NDr.rd [0]
   ·intro fH TH
    exact ⟨rfl, rfl⟩
   apply NDr.pure
   ·refine NW.w ?_
    exact ⟨rfl, rfl⟩
   apply NDr.pure
   ·refine ND.no (by omega) ?_
    exact ⟨rfl, rfl⟩
   refine NDr.w _ ?_
   refine NDr.w _ ?_
   refine NDr.w _ ?_
   refine NDr.w _ ?_
   refine NP.mk (by kernel_rfl) ?_
   exact NRet.mk [] rfl ⟨.refl _, rfl⟩
 ·rw [decide_eq_false h0, Bool.false_and]
  refine NP.mk (by kernel_rfl) ?_
  apply NDr.rd [0]
  ·intro fH TH
   exact ⟨rfl, rfl⟩
  apply NDr.rd [0]
  ·intro fH TH
   exact ⟨rfl, rfl⟩
  apply NDr.pure
  ·refine ND.no (by omega) ?_
   exact ⟨rfl, rfl⟩
  refine NDr.w _ ?_
  refine NDr.w _ ?_
  refine NDr.w _ ?_
  refine NDr.w _ ?_
  refine NDr.w _ ?_
  refine NP.mk (by kernel_rfl) ?_
  exact NRet.mk [] rfl ⟨.refl _, rfl⟩
theorem next14_walk (v : List Int) (t : Txn) (hv : v.length ≤ 2 ^ 39) : ACalls Tryz.prog Nm.ref14_Next [ints v, txnA t] [] (ints (next v t)) [] := by
 refine ACalls_of tab (dr_snd tab mixed) Nm.ref14_Next_h rfl (by kernel_rfl) (Nat.le_of_ble_eq_true rfl) rfl ?_
 unfold next
 by_cases h : 0 ≤ t.node ∧ t.node < 8 ∧ 0 ≤ t.seq ∧ t.seq ≤ 1073741824
 ·rw [if_pos h]
  refine NCall.call (with7_walk v t.node t.seq hv h) rfl rfl ?_
  refine ND.yes (by omega) ?_
  exact NRet.mk [] rfl ⟨.refl _, rfl⟩
 ·rw [if_neg h]
  refine NCall.call (with7_bad v t.node t.seq h) rfl rfl ?_
  refine ND.no (by omega) ?_
  refine NCall.call (trim7_walk v (by omega)) rfl rfl ?_
  exact NRet.mk [] rfl ⟨.refl _, rfl⟩
/-- slices.Clone of transactions. -/
theorem cloneT_walk (es : List AV) (hl : es.length ≤ 2 ^ 40) : ACalls Tryz.prog Nm.slices_Clone_api_Txn_api_Txn [.list (.agg 4) es] [] (.own 0 0 es.length) [.row .vrow (.agg 4) es] := by
 refine ACalls_of tab (dr_snd tab mixed) Nm.slices_Clone_api_Txn_api_Txn_h rfl (by kernel_rfl) (Nat.le_of_ble_eq_true rfl) rfl ?_
 refine NN.mk (fun h => ?_) ?_
 ·subst h
  exact NRet.ad [(2, .agg 4)] [0] rfl ⟨.refl _, rfl⟩
 ·refine NFz.own ?_
  refine NApp.endA rfl (by simp; omega) ?_
  exact NRet.mk [1] rfl ⟨.refl _, rfl⟩
def ixI {α : Type} (p : α → Bool) (l : List α) : Int := match l.findIdx? p with
 | some i => i
 | none => -1
theorem find_step {α : Type} {p : α → Bool} {l : List α} {i : Nat} (h : i < l.length) (ht : ∀ x ∈ l.take i, p x = false) : (p l[i] = true → ixI p l = i) ∧ (p l[i] = false → ∀ x ∈ l.take (i + 1), p x = false) := by
 refine ⟨fun hp => ?_, fun hp x hx => ?_⟩
 ·have : l.findIdx? p = some i := by
   rw [List.findIdx?_eq_some_iff_getElem]
   refine ⟨h, hp, fun j hj => ?_⟩
   have := ht l[j] (List.mem_take_iff_getElem.2 ⟨j, by omega, rfl⟩)
   simp [this]
  unfold ixI; rw [this]
 ·rw [List.take_succ_eq_append_getElem h] at hx
  rcases List.mem_append.1 hx with hx | hx
  ·exact ht x hx
  ·rw [List.mem_singleton.1 hx]; exact hp
theorem find_none {α : Type} {p : α → Bool} {l : List α} (h : ∀ x ∈ l, p x = false) : ixI p l = -1 := by
 have : l.findIdx? p = none := by rw [List.findIdx?_eq_none_iff]; exact h
 unfold ixI; rw [this]
end Go.Bv
namespace Go.Bv
set_option linter.unusedSimpArgs false
set_option linter.unusedVariables false
set_option maxHeartbeats 4000000
open Go Go.Proofs
theorem getJ {α : Type} {f : α → AV} {l : List α} {junk : List AV} {i : Nat} (h : i < l.length) : (l.map f ++ junk)[0 + i]? = some (f l[i]) := by
 rw [Nat.zero_add, List.getElem?_append_left (by simpa using h), List.getElem?_map, List.getElem?_eq_getElem h]; rfl
theorem delete_alg {α : Type} (es junk : List α) (i j : Nat) (z : α) (hi : i < j) (hj : j ≤ es.length) :
  es.take i ++ es.drop j ++ (List.replicate (j - i) z ++ junk) = ((es ++ junk).take i ++ (es.drop j ++ (es ++ junk).drop (i + (es.length - j)))).take (i + (es.length - j)) ++ (List.replicate (es.length - (i + (es.length - j))) z ++ ((es ++ junk).take i ++ (es.drop j ++ (es ++ junk).drop (i + (es.length - j)))).drop (i + (es.length - j) + (es.length - (i + (es.length - j))))) := by
 have h0 : (es ++ junk).take i = es.take i := List.take_append_of_le_length (by omega)
 have hl : (es.take i ++ es.drop j).length = i + (es.length - j) := by simp; omega
 rw [h0, ← List.append_assoc (es.take i), List.take_left' hl, show es.length - (i + (es.length - j)) = j - i by omega]
 congr 2
 rw [List.drop_append, List.drop_eq_nil_of_le (by omega), List.nil_append, hl, List.drop_drop, show i + (es.length - j) + (i + (es.length - j) + (j - i) - (i + (es.length - j))) = es.length by omega, List.drop_left]
theorem deleteT_walk (es junk : List AV) (i j : Nat) (hi : i < j) (hj : j ≤ es.length) (hb : es.length ≤ 2 ^ 40) : ACalls Tryz.prog Nm.slices_Delete_api_Txn_api_Txn [.own 0 0 es.length, i64 i, i64 j] [.row .vrow (.agg 4) (es ++ junk)]
  (.own 0 0 (i + (es.length - j))) [.row .vrow (.agg 4) (es.take i ++ es.drop j ++ (List.replicate (j - i) (.agg [i64 0, i64 0, .nils, .nils]) ++ junk))] := by
 refine ACalls_of tab (dr_snd tab mixed) Nm.slices_Delete_api_Txn_api_Txn_h rfl (by kernel_rfl) (Nat.le_of_ble_eq_true rfl) rfl ?_
 by_cases hje : j < es.length
 ·refine NP.mk (by (simp only [zLm, zLa, zLr, zLc, zLn, zLt, zLd]; omega)) ?_
  refine ND.no (by omega) ?_
  refine NP.mk (by kernel_rfl) ?_
  apply NDr.any
  ·intro H'
   exact ⟨rfl, rfl⟩
  refine NDr.w _ ?_
  apply NDr.rd [0]
  ·intro fH TH
   refine NP.mk (by (simp only [zLm, zLa, zLr, zLc, zLn, zLt, zLd]; omega)) ?_
   exact ⟨rfl, rfl⟩
  apply NDr.any
  ·intro H'
   exact ⟨rfl, rfl⟩
  refine NDr.w _ ?_
  apply NDr.rd [0]
  ·intro fH TH
   refine NSl.mid (by omega) ?_
   exact ⟨rfl, rfl⟩
  apply NDr.efw [0]
  ·refine NFz.own ?_
   refine NP.mk (by (simp only [zLm, zLa, zLr, zLc, zLn, zLt, zLd]; omega)) ?_
   refine NApp.inA (by (simp only [zLm, zLa, zLr, zLc, zLn, zLt, zLd]; omega)) ?_
   exact ⟨rfl, rfl⟩
  ·repeat (first | exact True.intro | refine ⟨by first | exact rfl | exact True.intro, ?_⟩)
  apply NDr.any
  ·intro H'
   exact ⟨rfl, rfl⟩
  refine NP.mk (by kernel_rfl) ?_
  refine NP.mk (by (simp only [zLm, zLa, zLr, zLc, zLn, zLt, zLd]; omega)) ?_
  refine NSl.mid (by simp only [zLm, zLa, zLr, zLc, zLn, zLt, zLd]; omega) ?_
  have hx : ((es ++ junk).drop j).take (es.length - j) = es.drop j := by
   rw [List.drop_append_of_le_length hj, List.take_left' (by simp)]
  have hxl : (es.drop j).length = es.length - j := List.length_drop
  refine NRet.mk [] rfl ⟨?_, ?_⟩
  ·simp only [Int.toNat_natCast, Nat.zero_add, hx, hxl]; exact .refl _
  ·simp only [Int.toNat_natCast, Nat.zero_add, hx, hxl]
   exact congrArg (fun l => [Blk.row .vrow (.agg 4) l]) (delete_alg es junk i j _ hi hj)
 ·refine NP.mk (by (simp only [zLm, zLa, zLr, zLc, zLn, zLt, zLd]; omega)) ?_
  refine ND.no (by omega) ?_
  refine NP.mk (by kernel_rfl) ?_
  apply NDr.any
  ·intro H'
   exact ⟨rfl, rfl⟩
  refine NDr.w _ ?_
  apply NDr.rd [0]
  ·intro fH TH
   refine NP.mk (by (simp only [zLm, zLa, zLr, zLc, zLn, zLt, zLd]; omega)) ?_
   exact ⟨rfl, rfl⟩
  apply NDr.any
  ·intro H'
   exact ⟨rfl, rfl⟩
  refine NDr.w _ ?_
  apply NDr.rd [0]
  ·intro fH TH
   refine NSl.fin (by omega) ?_
   exact ⟨rfl, rfl⟩
  apply NDr.efw [0]
  ·refine NFz.own ?_
   refine NApp.inA (by (simp only [zLm, zLa, zLr, zLc, zLn, zLt, zLd]; omega)) ?_
   exact ⟨rfl, rfl⟩
  ·repeat (first | exact True.intro | refine ⟨by first | exact rfl | exact True.intro, ?_⟩)
  apply NDr.any
  ·intro H'
   exact ⟨rfl, rfl⟩
  refine NP.mk (by kernel_rfl) ?_
  refine NP.mk (by (simp only [zLm, zLa, zLr, zLc, zLn, zLt, zLd]; omega)) ?_
  refine NSl.mid (by simp only [zLm, zLa, zLr, zLc, zLn, zLt, zLd]; omega) ?_
  have hj' : es.length - j = 0 := by omega
  refine NRet.mk [] rfl ⟨?_, ?_⟩
  ·simp only [Int.toNat_natCast, Nat.zero_add, hj', Nat.add_zero]; exact .refl _
  ·simp only [Int.toNat_natCast, Nat.zero_add, Nat.add_zero]
   have := delete_alg es junk i j (AV.agg [i64 0, i64 0, .nils, .nils]) hi hj
   rw [hj', Nat.add_zero, List.drop_eq_nil_of_le (show es.length ≤ j by omega), List.nil_append, List.append_nil] at this
   rw [List.drop_eq_nil_of_le (show es.length ≤ j by omega), List.append_nil]
   exact congrArg (fun l => [Blk.row .vrow (.agg 4) l]) this
theorem hasPrefixL_walk (s p : List UInt8) (hs : s.length ≤ 2 ^ 47) : ACalls Tryz.prog Nm.internal_stringslite_HasPrefix [.str s, .str p] [] (.bool (decide (s.take p.length = p))) [] := by
 refine ACalls_of tab (dr_snd tab mixed) Nm.internal_stringslite_HasPrefix_h rfl (by kernel_rfl) (Nat.le_of_ble_eq_true rfl) rfl ?_
 by_cases h1 : p.length ≤ s.length
 ·by_cases h2 : s.take p.length = p
  ·rw [decide_eq_true h2]
   refine ND.yes (by omega) ?_
   refine NP.mk (by omega) ?_
   refine ND.yes (by (simp; omega)) ?_
   exact NRet.mk [] rfl ⟨.refl _, rfl⟩
  ·rw [decide_eq_false h2]
   refine ND.yes (by omega) ?_
   refine NP.mk (by omega) ?_
   refine ND.no (by (simp; omega)) ?_
   exact NRet.mk [] rfl ⟨.refl _, rfl⟩
 ·rw [decide_eq_false (fun h => h1 (by rw [← h, List.length_take]; omega))]
  refine ND.no (by omega) ?_
  exact NRet.mk [] rfl ⟨.refl _, rfl⟩
theorem hasPrefix_walk (s p : List UInt8) (hs : s.length ≤ 2 ^ 47) : ACalls Tryz.prog Nm.strings_HasPrefix [.str s, .str p] [] (.bool (decide (s.take p.length = p))) [] := by
 refine ACalls_of tab (dr_snd tab mixed) Nm.strings_HasPrefix_h rfl (by kernel_rfl) (Nat.le_of_ble_eq_true rfl) rfl ?_
 refine NCall.call (hasPrefixL_walk s p hs) rfl rfl ?_
 exact NRet.mk [] rfl ⟨.refl _, rfl⟩
theorem cloneD_walk (es : List AV) (hl : es.length ≤ 2 ^ 40) : ACalls Tryz.prog Nm.slices_Clone_api_Dot_api_Dot [.list (.agg 3) es] [] (.own 0 0 es.length) [.row .vrow (.agg 3) es] := by
 refine ACalls_of tab (dr_snd tab mixed) Nm.slices_Clone_api_Dot_api_Dot_h rfl (by kernel_rfl) (Nat.le_of_ble_eq_true rfl) rfl ?_
 refine NN.mk (fun h => ?_) ?_
 ·subst h
  exact NRet.ad [(2, .agg 3)] [0] rfl ⟨.refl _, rfl⟩
 ·refine NFz.own ?_
  refine NApp.endA rfl (by simp; omega) ?_
  exact NRet.mk [1] rfl ⟨.refl _, rfl⟩
end Go.Bv
namespace Go.Bv
set_option linter.unusedSimpArgs false
set_option linter.unusedVariables false
set_option maxHeartbeats 4000000
open Go Go.Proofs
def strsA (l : List (List UInt8)) : AV := .list .leaf (l.map AV.str)
def begins (s p : List UInt8) : Bool := decide (s.take p.length = p)
theorem covF_walk (k p : List UInt8) (hk : k.length ≤ 2 ^ 47) : ACalls Tryz.prog Nm.zone_Covers_1 [.str p, .ptr 0 0 0] [.row .box .leaf [.str k]] (.bool (begins k p)) [.row .box .leaf [.str k]] := by
 refine ACalls_of tab (dr_snd tab mixed) Nm.zone_Covers_1_h rfl (by kernel_rfl) (Nat.le_of_ble_eq_true rfl) rfl ?_
 refine NCall.call (hasPrefix_walk k p hk) rfl rfl ?_
 exact NRet.mk [] rfl ⟨.refl _, rfl⟩
theorem indexS_walk (g : Nat) (k : List UInt8) (l : List (List UInt8)) (p : List UInt8 → Bool) (hl : l.length ≤ 2 ^ 40) (hg : ∀ t ∈ l, ACalls Tryz.prog g [.str t, .ptr 0 0 0] [.row .box .leaf [.str k]] (.bool (p t)) [.row .box .leaf [.str k]]) :
  ACalls Tryz.prog Nm.slices_IndexFunc_string_string [strsA l, .fn g [.ptr 0 0 0]] [.row .box .leaf [.str k]] (i64 (ixI p l)) [.row .box .leaf [.str k]] := by
 refine ACalls_of tab (dr_snd tab mixed) Nm.slices_IndexFunc_string_string_h rfl (by kernel_rfl) (Nat.le_of_ble_eq_true rfl) rfl ?_
 refine NLoop.mk [] [0, 1, 6, 7, 8] (fun m vs H => ∃ i, i ≤ l.length ∧ m = l.length - i ∧ (∀ x ∈ l.take i, p x = false) ∧ H = [.row .box .leaf [.str k]] ∧ vs = [strsA l, .fn g [.ptr 0 0 0], strsA l, i64 l.length, i64 i]) rfl ?_ ?_
 ·exact Canon.mk [] rfl ⟨l.length, 0, Nat.zero_le _, rfl, by simp, rfl, by simp [strsA, i64]⟩
 ·rintro m vs H ⟨i, hi, rfl, ht, rfl, rfl⟩
  by_cases hil : i < l.length
  ·have hc := hg _ (List.getElem_mem hil)
   obtain ⟨f1, f2⟩ := find_step hil ht
   cases hp : p l[i] with
   | true =>
    rw [hp] at hc
    rw [f1 hp]
    refine ND.yes (by omega) ?_
    refine NP.mk (by omega) ?_
    refine NG.mapN (by omega) ?_
    refine NCall.atA (hc) ?_
    exact NRet.mk [] rfl ⟨.refl _, rfl⟩
   | false =>
    rw [hp] at hc
    refine ND.yes (by omega) ?_
    refine NP.mk (by omega) ?_
    refine NG.mapN (by omega) ?_
    refine NCall.atA (hc) ?_
    refine NW.w ?_
    exact Canon.mk [] rfl ⟨l.length - (i + 1), by omega, i + 1, by omega, rfl, f2 hp, rfl, rfl⟩
  ·have : i = l.length := by omega
   subst this
   rw [List.take_length] at ht
   rw [find_none ht]
   refine ND.no (by omega) ?_
   exact NRet.mk [] rfl ⟨.refl _, rfl⟩
theorem ixI_any {α : Type} (p : α → Bool) (l : List α) : l.any p = decide (0 ≤ ixI p l) := by
 unfold ixI
 cases h : l.findIdx? p with
 | none =>
  rw [List.findIdx?_eq_none_iff] at h
  rw [List.any_eq_false.2 (fun x hx => by simp [h x hx])]
  rfl
 | some i =>
  rw [List.findIdx?_eq_some_iff_getElem] at h
  obtain ⟨h1, h2, _⟩ := h
  rw [List.any_eq_true.2 ⟨_, List.getElem_mem h1, h2⟩]
  simp
theorem containsS_walk (g : Nat) (k : List UInt8) (l : List (List UInt8)) (p : List UInt8 → Bool) (hl : l.length ≤ 2 ^ 40) (hg : ∀ t ∈ l, ACalls Tryz.prog g [.str t, .ptr 0 0 0] [.row .box .leaf [.str k]] (.bool (p t)) [.row .box .leaf [.str k]]) :
  ACalls Tryz.prog Nm.slices_ContainsFunc_string_string [strsA l, .fn g [.ptr 0 0 0]] [.row .box .leaf [.str k]] (.bool (l.any p)) [.row .box .leaf [.str k]] := by
 refine ACalls_of tab (dr_snd tab mixed) Nm.slices_ContainsFunc_string_string_h rfl (by kernel_rfl) (Nat.le_of_ble_eq_true rfl) rfl ?_
 have hi := indexS_walk g k l p hl hg
 rw [ixI_any]
 by_cases h : 0 ≤ ixI p l
 ·rw [decide_eq_true h]
  refine NCall.atA (hi) ?_
  refine ND.yes (by omega) ?_
  exact NRet.mk [] rfl ⟨.refl _, rfl⟩
 ·rw [decide_eq_false h]
  refine NCall.atA (hi) ?_
  refine ND.no (by omega) ?_
  exact NRet.mk [] rfl ⟨.refl _, rfl⟩
theorem covers_walk (z : List (List UInt8)) (k : List UInt8) (hz : z.length ≤ 2 ^ 40) (hk : k.length ≤ 2 ^ 47) : ACalls Tryz.prog Nm.zone_Covers [strsA z, .str k] [] (.bool (z.any (begins k))) [] := by
 refine ACalls_of tab (dr_snd tab mixed) Nm.zone_Covers_h rfl (by kernel_rfl) (Nat.le_of_ble_eq_true rfl) rfl ?_
 have hc := containsS_walk Nm.zone_Covers_1 k z (begins k) hz (fun t _ => covF_walk k t hk)
 refine NCall.atA (hc) ?_
 exact NRet.mk [] rfl ⟨.refl _, rfl⟩
theorem dropL {sh : Sh} {es : List AV} {n : Nat} (hn : n = es.length) : DropT [.row .vrow sh es] (.own 0 0 n) (.list sh es) := by
 subst hn
 exact .val (.own trivial rfl (by simp) (by simp) (by rw [List.drop_zero, List.take_of_length_le (by simp)])) rfl (fun _ => by simp) (fun _ => by simp)
theorem cloneD_list (l : List Dot) (hl : l.length ≤ 2 ^ 40) : ACalls Tryz.prog Nm.slices_Clone_api_Dot_api_Dot [dotsA l] [] (dotsA l) [] :=
 (cloneD_walk (l.map dotA) (by simpa using hl)).drop (dropL rfl)
theorem cloneV_list (l : List Int) (hl : l.length ≤ 2 ^ 40) : ACalls Tryz.prog Nm.slices_Clone_api_Vec_int [ints l] [] (ints l) [] :=
 (cloneV_walk l hl).drop (dropL (by simp))
def effsOnly (l : List Eff) (z : List (List UInt8)) : List Eff := l.filter fun e => z.any (begins e.key)
def smEff (e : Eff) : Prop := e.key.length ≤ 2 ^ 40 ∧ e.field.length ≤ 2 ^ 40 ∧ e.elem.length ≤ 2 ^ 40 ∧ e.drops.length ≤ 2 ^ 40
theorem filter_take {α : Type} (p : α → Bool) (l : List α) {i : Nat} (h : i < l.length) : (l.take (i + 1)).filter p = if p l[i] then (l.take i).filter p ++ [l[i]] else (l.take i).filter p := by
 rw [List.take_succ_eq_append_getElem h, List.filter_append]
 cases hp : p l[i] <;> simp [hp]
theorem effOnly_walk (l : List Eff) (z : List (List UInt8)) (hl : l.length ≤ 2 ^ 38) (hz : z.length ≤ 2 ^ 40) (hx : ∀ e ∈ l, smEff e) : ACalls Tryz.prog Nm.eff_Only [effsA l, strsA z] [] (effsA (effsOnly l z)) [] := by
 refine ACalls_of tab (dr_snd tab mixed) Nm.eff_Only_h rfl (by kernel_rfl) (Nat.le_of_ble_eq_true rfl) rfl ?_
 let p : Eff → Bool := fun e => z.any (begins e.key)
 have hp0 : effsOnly l z = l.filter p := rfl
 refine NLoop.mk [(5, .agg 7)] [1, 5, 8, 9, 10] (fun m vs H => ∃ i, i ≤ l.length ∧ m = l.length - i ∧ H = [.row .vrow (.agg 7) (((l.take i).filter p).map effA)] ∧ vs = [strsA z, .own 0 0 (((l.take i).filter p).map effA).length, effsA l, i64 l.length, i64 i]) rfl ?_ ?_
 ·exact Canon.mk [0] rfl ⟨l.length, 0, Nat.zero_le _, rfl, rfl, by simp [effsA, strsA, i64]⟩
 ·rintro m vs H ⟨i, hi, rfl, rfl, rfl⟩
  by_cases hil : i < l.length
  ·have hs := filter_take p l hil
   have hfl : ((l.take i).filter p).length ≤ i := Nat.le_trans (List.length_filter_le _ _) (by simp; omega)
   obtain ⟨x1, x2, x3, x4⟩ := hx _ (List.getElem_mem hil)
   have hc := covers_walk z l[i].key hz (by omega)
   have hd := cloneD_list l[i].drops x4
   cases hp : p l[i] with
   | true =>
    rw [show z.any (begins l[i].key) = true from hp] at hc
    rw [hp, if_pos rfl] at hs
    refine ND.yes (by omega) ?_
    refine NP.mk (by omega) ?_
    refine NG.mapN (by omega) ?_
    refine NCall.call (hc) rfl rfl ?_
    refine NCall.call (hd) rfl rfl ?_
    refine NFz.own ?_
    refine NApp.endA rfl (by simp; omega) ?_
    refine NW.w ?_
    exact Canon.mk [2] rfl ⟨l.length - (i + 1), by omega, i + 1, by omega, rfl, by rw [hs, List.map_append]; rfl, by rw [hs, List.map_append]; rfl⟩
   | false =>
    rw [show z.any (begins l[i].key) = false from hp] at hc
    rw [hp, if_neg (by simp)] at hs
    refine ND.yes (by omega) ?_
    refine NP.mk (by omega) ?_
    refine NG.mapN (by omega) ?_
    refine NCall.call (hc) rfl rfl ?_
    refine NW.w ?_
    exact Canon.mk [0] rfl ⟨l.length - (i + 1), by omega, i + 1, by omega, rfl, by rw [hs], by rw [hs]; rfl⟩
  ·have : i = l.length := by omega
   subst this
   rw [List.take_length]
   refine ND.no (by omega) ?_
   exact NRet.mk [] rfl (NFrz.mk ((l.filter p).map effA) (by simp) (by rw [List.drop_zero, List.take_length]) ⟨.refl _, rfl⟩)
end Go.Bv
namespace Go.Bv
open Go Go.Proofs
/-- May a transaction's number stand in a vector? -/
def okN (t : Txn) : Prop := 0 ≤ t.node ∧ t.node < 8 ∧ 0 ≤ t.seq ∧ t.seq ≤ 1073741824
instance (t : Txn) : Decidable (okN t) := by unfold okN; infer_instance
def takeN : Nat → List Int → List Txn → List Txn × List Int
 | 0, v, _ => ([], v)
 | n + 1, v, l => match l.find? (ready v) with
  | none => ([], v)
  | some t => (t :: (takeN n (next v t) (l.eraseP (ready v))).1, (takeN n (next v t) (l.eraseP (ready v))).2)
def takeT (v : List Int) (l : List Txn) : List Txn × List Int := takeN l.length v l
def chain : List Int → List Txn → Bool
 | _, [] => true
 | v, t :: r => ready v t && chain (next v t) r
def nexts (v : List Int) (l : List Txn) : List Int := l.foldl next v
theorem ready_iff (v : List Int) (t : Txn) : ready v t = true ↔ 1 ≤ t.seq ∧ t.seq - 1 = vatI v t.node ∧ ∀ i, vat t.deps i ≤ vat v i := by
 unfold ready
 rw [Bool.and_eq_true, Bool.and_eq_true, decide_eq_true_eq, decide_eq_true_eq, vwithin_iff]
theorem next_ok {v : List Int} {t : Txn} (h : okN t) : next v t = trim (vset v t.node.toNat t.seq) := by
 unfold okN at h; unfold next; rw [if_pos h]
theorem next_bad {v : List Int} {t : Txn} (h : ¬ okN t) : next v t = trim v := by
 unfold okN at h; unfold next; rw [if_neg h]
theorem vat_next (v : List Int) (t : Txn) (i : Nat) : vat (next v t) i = if okN t ∧ i = t.node.toNat then t.seq else vat v i := by
 by_cases h : okN t
 ·rw [next_ok h, vat_trim, vat_vset _ _ _ h.2.2.1]
  simp [h]
 ·rw [next_bad h, vat_trim]
  simp [h]
theorem trim_next (v : List Int) (t : Txn) : trim (next v t) = next v t := by
 by_cases ho : okN t
 ·rw [next_ok ho, trim_trim]
 ·rw [next_bad ho, trim_trim]
theorem next_mono {v : List Int} {t : Txn} (h : ready v t = true) (i : Nat) : vat v i ≤ vat (next v t) i := by
 rw [vat_next]
 split
 ·rename_i hc
  obtain ⟨ho, rfl⟩ := hc
  have := ((ready_iff v t).1 h).2.1
  unfold vatI at this
  rw [if_neg (by have := ho.1; omega)] at this
  omega
 ·exact Int.le_refl _
theorem vatI_mono {v w : List Int} (h : ∀ i, vat v i ≤ vat w i) (n : Int) : vatI v n ≤ vatI w n := by
 unfold vatI; split
 ·exact Int.le_refl _
 ·exact h _
theorem nexts_cons (v : List Int) (t : Txn) (r : List Txn) : nexts v (t :: r) = nexts (next v t) r := rfl
theorem nexts_snoc (v : List Int) (l : List Txn) (t : Txn) : nexts v (l ++ [t]) = next (nexts v l) t := by simp [nexts]
theorem chain_cons (v : List Int) (t : Txn) (r : List Txn) : chain v (t :: r) = true ↔ ready v t = true ∧ chain (next v t) r = true := by
 show (ready v t && chain (next v t) r) = true ↔ _
 rw [Bool.and_eq_true]
theorem takeN_chain : ∀ (n : Nat) (v : List Int) (l : List Txn), chain v (takeN n v l).1 = true ∧ (takeN n v l).2 = nexts v (takeN n v l).1
 | 0, _, _ => ⟨rfl, rfl⟩
 | n + 1, v, l => by
  unfold takeN
  split
  ·exact ⟨rfl, rfl⟩
  ·rename_i t ht
   obtain ⟨h1, h2⟩ := takeN_chain n (next v t) (l.eraseP (ready v))
   exact ⟨(chain_cons _ _ _).2 ⟨List.find?_some ht, h1⟩, h2⟩
theorem erase_perm {p : Txn → Bool} : ∀ {l : List Txn} {t : Txn}, l.find? p = some t → l.Perm (t :: l.eraseP p)
 | [], _, h => by simp at h
 | x :: r, t, h => by
  rw [List.find?_cons] at h
  rw [List.eraseP_cons]
  cases hx : p x with
  | true =>
   rw [hx] at h
   simp only [Option.some.injEq] at h
   subst h
   exact .refl _
  | false =>
   rw [hx] at h
   exact ((erase_perm h).cons x).trans (.swap ..)
theorem takeN_rest : ∀ (n : Nat) (v : List Int) (l : List Txn), l.length ≤ n → ∃ r, l.Perm ((takeN n v l).1 ++ r) ∧ ∀ t ∈ r, ready (takeN n v l).2 t = false
 | 0, v, l, h => by
  have : l = [] := List.length_eq_zero_iff.1 (by omega)
  subst this
  exact ⟨[], .refl _, by simp⟩
 | n + 1, v, l, h => by
  unfold takeN
  split
  ·rename_i hn
   exact ⟨l, .refl _, fun t ht => by simpa using List.find?_eq_none.1 hn t ht⟩
  ·rename_i t ht
   have hp := erase_perm ht
   obtain ⟨r, h1, h2⟩ := takeN_rest n (next v t) (l.eraseP (ready v)) (by
    have := hp.length_eq; simp only [List.length_cons] at this; omega)
   exact ⟨r, hp.trans (h1.cons t), h2⟩
theorem takeT_chain (v : List Int) (l : List Txn) : chain v (takeT v l).1 = true := (takeN_chain _ v l).1
theorem takeT_nexts (v : List Int) (l : List Txn) : (takeT v l).2 = nexts v (takeT v l).1 := (takeN_chain _ v l).2
theorem takeT_rest (v : List Int) (l : List Txn) : ∃ r, l.Perm ((takeT v l).1 ++ r) ∧ ∀ t ∈ r, ready (takeT v l).2 t = false := takeN_rest _ v l (Nat.le_refl _)
theorem takeT_mem {v : List Int} {l : List Txn} {t : Txn} (h : t ∈ (takeT v l).1) : t ∈ l := by
 obtain ⟨r, hp, _⟩ := takeT_rest v l
 exact hp.mem_iff.2 (List.mem_append_left _ h)
theorem takeT_len (v : List Int) (l : List Txn) : (takeT v l).1.length ≤ l.length := by
 obtain ⟨r, hp, _⟩ := takeT_rest v l
 have := hp.length_eq; simp only [List.length_append] at this; omega
theorem takeN_of_chain : ∀ (a : List Txn) (v : List Int), chain v a = true → takeN a.length v a = (a, nexts v a)
 | [], _, _ => rfl
 | t :: r, v, h => by
  obtain ⟨h1, h2⟩ := (chain_cons v t r).1 h
  show takeN (r.length + 1) v (t :: r) = _
  unfold takeN
  rw [List.find?_cons, h1]
  simp only
  rw [List.eraseP_cons, h1]
  simp only [cond_true]
  rw [takeN_of_chain r _ h2]
  rfl
theorem takeT_of_chain {v : List Int} {a : List Txn} (h : chain v a = true) : takeT v a = (a, nexts v a) := takeN_of_chain a v h
theorem takeT_none {v : List Int} {l : List Txn} (h : ∀ t ∈ l, ready v t = false) : takeT v l = ([], v) := by
 unfold takeT
 cases l with
 | nil => rfl
 | cons t r =>
  show takeN (r.length + 1) v (t :: r) = _
  unfold takeN
  rw [List.find?_eq_none.2 (fun x hx => by simp [h x hx])]
end Go.Bv
namespace Go.Bv
set_option linter.unusedSimpArgs false
set_option linter.unusedVariables false
set_option maxHeartbeats 4000000
open Go Go.Proofs
/-- A transaction that is not too large. -/
def smTxn (t : Txn) : Prop := okInt t.seq ∧ t.deps.length ≤ 2 ^ 30 ∧ t.effs.length ≤ 2 ^ 30 ∧ ∀ e ∈ t.effs, smEff e
def onlyT (t : Txn) (z : List (List UInt8)) : Txn := { t with effs := effsOnly t.effs z }
theorem effsOnly_all (l : List Eff) : effsOnly l [[]] = l := by
 unfold effsOnly
 rw [List.filter_eq_self]
 intro e _
 simp [begins]
theorem onlyT_all (t : Txn) : onlyT t [[]] = t := by unfold onlyT; rw [effsOnly_all]
theorem txnOnly_walk (t : Txn) (z : List (List UInt8)) (ht : smTxn t) (hz : z.length ≤ 2 ^ 40) : ACalls Tryz.prog Nm.txn_Only [txnA t, strsA z] [] (txnA (onlyT t z)) [] := by
 refine ACalls_of tab (dr_snd tab mixed) Nm.txn_Only_h rfl (by kernel_rfl) (Nat.le_of_ble_eq_true rfl) rfl ?_
 obtain ⟨h1, h2, h3, h4⟩ := ht
 refine NCall.call (cloneV_list t.deps (by omega)) rfl rfl ?_
 refine NCall.call (effOnly_walk t.effs z (by omega) hz h4) rfl rfl ?_
 exact NRet.mk [] rfl ⟨.refl _, rfl⟩
theorem txnOnlyAll_walk (t : Txn) (ht : smTxn t) : ACalls Tryz.prog Nm.txn_Only [txnA t, .list .leaf [.str []]] [] (txnA t) [] := by
 have := txnOnly_walk t [[]] ht (by simp)
 rwa [onlyT_all] at this
theorem takeF_walk (v : List Int) (t : Txn) (hv : v.length ≤ 2 ^ 38) (ht : smTxn t) : ACalls Tryz.prog Nm.order_Take_1 [txnA t, .ptr 0 0 0] [.row .box .leaf [.list .leaf (v.map i64)]] (.bool (ready v t)) [.row .box .leaf [.list .leaf (v.map i64)]] := by
 refine ACalls_of tab (dr_snd tab mixed) Nm.order_Take_1_h rfl (by kernel_rfl) (Nat.le_of_ble_eq_true rfl) rfl ?_
 refine NCall.call (ready_walk v t hv (by have := ht.2.1; omega) ht.1) rfl rfl ?_
 exact NRet.mk [] rfl ⟨.refl _, rfl⟩
theorem next_len (v : List Int) (t : Txn) : (next v t).length ≤ max v.length 8 := by
 by_cases h : okN t
 ·rw [next_ok h]
  have h1 := trim_len (vset v t.node.toNat t.seq)
  have h2 := h.2.1
  simp only [vset, List.length_set, List.length_append, List.length_replicate] at h1 ⊢
  omega
 ·rw [next_bad h]
  have := trim_len v; omega
/-- slices.IndexFunc of transactions in a row of one's own; the function looks into one box. -/
theorem indexTo_walk (g : Nat) (cs : List AV) (l : List Txn) (junk : List AV) (p : Txn → Bool) (hl : l.length ≤ 2 ^ 40) (hg : ∀ t ∈ l, ACalls Tryz.prog g [txnA t, .ptr 0 0 0] [.row .box .leaf [.list .leaf cs]] (.bool (p t)) [.row .box .leaf [.list .leaf cs]]) :
  ACalls Tryz.prog Nm.slices_IndexFunc_api_Txn_api_Txn [.own 1 0 l.length, .fn g [.ptr 0 0 0]] [.row .box .leaf [.list .leaf cs], .row .vrow (.agg 4) (l.map txnA ++ junk)] (i64 (ixI p l)) [.row .box .leaf [.list .leaf cs], .row .vrow (.agg 4) (l.map txnA ++ junk)] := by
 refine ACalls_of tab (dr_snd tab mixed) Nm.slices_IndexFunc_api_Txn_api_Txn_h rfl (by kernel_rfl) (Nat.le_of_ble_eq_true rfl) rfl ?_
 refine NLoop.mk [] [0, 1, 6, 7, 8] (fun m vs H => ∃ i, i ≤ l.length ∧ m = l.length - i ∧ (∀ x ∈ l.take i, p x = false) ∧ H = [.row .box .leaf [.list .leaf cs], .row .vrow (.agg 4) (l.map txnA ++ junk)] ∧ vs = [.own 1 0 l.length, .fn g [.ptr 0 0 0], .own 1 0 l.length, i64 l.length, i64 i]) rfl ?_ ?_
 ·exact Canon.mk [] rfl ⟨l.length, 0, Nat.zero_le _, rfl, by simp, rfl, by simp [i64]⟩
 ·rintro m vs H ⟨i, hi, rfl, ht, rfl, rfl⟩
  by_cases hil : i < l.length
  ·have hc := hg _ (List.getElem_mem hil)
   obtain ⟨f1, f2⟩ := find_step hil ht
   have hx := getJ (f := txnA) (junk := junk) hil
   cases hp : p l[i] with
   | true =>
    rw [hp] at hc
    rw [f1 hp]
    refine ND.yes (by omega) ?_
    refine NP.mk (by (simp only [zLm, zLa, zLr, zLc, zLn, zLt, zLd]; omega)) ?_
    refine NG.mk _ (by assumption) ?_
    refine NCall.subA [0] (hc) ?_
    exact NRet.mk [] rfl ⟨.refl _, rfl⟩
   | false =>
    rw [hp] at hc
    refine ND.yes (by omega) ?_
    refine NP.mk (by (simp only [zLm, zLa, zLr, zLc, zLn, zLt, zLd]; omega)) ?_
    refine NG.mk _ (by assumption) ?_
    refine NCall.subA [0] (hc) ?_
    refine NW.w ?_
    exact Canon.mk [] rfl ⟨l.length - (i + 1), by omega, i + 1, by omega, rfl, f2 hp, rfl, rfl⟩
  ·have : i = l.length := by omega
   subst this
   rw [List.take_length] at ht
   rw [find_none ht]
   refine ND.no (by omega) ?_
   exact NRet.mk [] rfl ⟨.refl _, rfl⟩
theorem find_ix {p : Txn → Bool} {l : List Txn} : (∃ (i : Nat) (h : i < l.length), ixI p l = i ∧ l.find? p = some l[i] ∧ l.eraseP p = l.take i ++ l.drop (i + 1)) ∨ (ixI p l = -1 ∧ l.find? p = none) := by
 induction l with
 | nil => exact .inr ⟨rfl, rfl⟩
 | cons x r ih =>
  cases hx : p x with
  | true => exact .inl ⟨0, by simp, by simp [ixI, List.findIdx?_cons, hx], by simp [List.find?_cons, hx], by simp [List.eraseP_cons, hx]⟩
  | false =>
   rcases ih with ⟨i, h, h1, h2, h3⟩ | ⟨h1, h2⟩
   ·refine .inl ⟨i + 1, by simpa using h, ?_, by simp [hx, h2], by simp [hx, h3]⟩
    unfold ixI at h1 ⊢
    rw [List.findIdx?_cons, hx]
    cases hq : r.findIdx? p with
    | none => rw [hq] at h1; simp at h1 <;> omega
    | some k => rw [hq] at h1; simp at h1 ⊢; omega
   ·refine .inr ⟨?_, by simp [hx, h2]⟩
    unfold ixI at h1 ⊢
    rw [List.findIdx?_cons, hx]
    cases hq : r.findIdx? p with
    | none => simp
    | some k => rw [hq] at h1; simp at h1 <;> omega
theorem takeN_some {n : Nat} {v : List Int} {l : List Txn} {t : Txn} (h : l.find? (ready v) = some t) : takeN (n + 1) v l = (t :: (takeN n (next v t) (l.eraseP (ready v))).1, (takeN n (next v t) (l.eraseP (ready v))).2) := by
 conv => lhs; unfold takeN
 rw [h]
theorem takeN_none {n : Nat} {v : List Int} {l : List Txn} (h : l.find? (ready v) = none) : takeN n v l = ([], v) := by
 cases n with
 | zero => rfl
 | succ n => unfold takeN; rw [h]
theorem take_walk (v : List Int) (l : List Txn) (hv : v.length ≤ 2 ^ 38) (hl : l.length ≤ 2 ^ 30) (hx : ∀ t ∈ l, smTxn t) : ACalls Tryz.prog Nm.order_Take [ints v, txnsA l] [] (.tup [txnsA (takeT v l).1, ints (takeT v l).2]) [] := by
 refine ACalls_of tab (dr_snd tab mixed) Nm.order_Take_h rfl (by kernel_rfl) (Nat.le_of_ble_eq_true rfl) rfl ?_
 have h1 := cloneT_walk (l.map txnA) (by simp; omega)
 have h2 := cloneV_list v (by omega)
 refine NCall.atA (ACalls.frame (h1) rfl _) ?_
 refine NCall.call (h2) rfl rfl ?_
 refine NLoop.mk [(7, .agg 4)] [2, 6, 7] (fun m vs H => ∃ (out left : List Txn) (w : List Int) (junk : List AV), m = left.length ∧ w.length ≤ 2 ^ 38 ∧ left.length ≤ 2 ^ 30 ∧ out.length + left.length = l.length ∧ (∀ t ∈ left, smTxn t) ∧
  (takeT v l).1 = out ++ (takeN left.length w left).1 ∧ (takeT v l).2 = (takeN left.length w left).2 ∧
  H = [.row .box .leaf [ints w], .row .vrow (.agg 4) (left.map txnA ++ junk), .row .vrow (.agg 4) (out.map txnA)] ∧ vs = [.ptr 0 0 0, .own 1 0 left.length, .own 2 0 out.length]) rfl ?_ ?_
 ·exact Canon.mk [0, 1, 2] rfl ⟨l.length, [], l, v, [], rfl, hv, hl, by simp, hx, rfl, rfl, by simp [ints], by simp⟩
 ·rintro m vs H ⟨out, left, w, junk, rfl, hw, hll, hsum, hxl, e1, e2, rfl, rfl⟩
  rw [e1, e2]
  have h3 := indexTo_walk Nm.order_Take_1 (w.map i64) left junk (ready w) (by omega) (fun t ht => takeF_walk w t hw (hxl t ht))
  rcases find_ix (p := ready w) (l := left) with ⟨i, hi, f1, f2, f3⟩ | ⟨f1, f2⟩
  ·rw [f1] at h3
   have hm := List.getElem_mem hi
   have h4 := txnOnlyAll_walk left[i] (hxl _ hm)
   have h5 := next_walk w left[i] (by omega)
   have hx := getJ (f := txnA) (junk := junk) hi
   have h6 := deleteT_walk (left.map txnA) junk i (i + 1) (by omega) (by simp; omega) (by simp; omega)
   rw [List.length_map] at h6
   refine NCall.subA [0, 1] (h3) ?_
   refine ND.no (by omega) ?_
   refine NP.mk (by (simp only [zLm, zLa, zLr, zLc, zLn, zLt, zLd]; omega)) ?_
   refine NG.mk _ (by assumption) ?_
   refine NW.w ?_
   refine NCall.subA [1] (h6) ?_
   refine NCall.call (h4) rfl rfl ?_
   refine NFz.own ?_
   refine NApp.endA (by simp) (by simp; omega) ?_
   refine NCall.call (h5) rfl rfl ?_
   have hL : (left.take i ++ left.drop (i + 1)).length = i + (left.length - (i + 1)) := by simp; omega
   have eT := takeN_some (n := (left.take i ++ left.drop (i + 1)).length) f2
   rw [f3, show (left.take i ++ left.drop (i + 1)).length + 1 = left.length by omega] at eT
   rw [eT] at e1 e2 ⊢
   have hn := next_len w left[i]
   refine Canon.mk [0, 1, 4] rfl ⟨(left.take i ++ left.drop (i + 1)).length, by omega, out ++ [left[i]], left.take i ++ left.drop (i + 1), next w left[i], (List.replicate (i + 1 - i) (.agg [i64 0, i64 0, .nils, .nils]) ++ junk), rfl, by omega, by omega, by simp; omega, fun t ht => ?_, by simp, rfl, ?_, ?_⟩
   ·rcases List.mem_append.1 ht with h | h
    ·exact hxl t (List.mem_of_mem_take h)
    ·exact hxl t (List.mem_of_mem_drop h)
   ·simp only [List.map_append, List.map_take, List.map_drop]; rfl
   ·rw [hL]; simp
  ·rw [f1] at h3
   rw [takeN_none f2, List.append_nil]
   refine NCall.subA [0, 1] (h3) ?_
   refine ND.yes (by omega) ?_
   refine NP.mk (by kernel_rfl) ?_
   apply NDr.any
   ·intro H'
    exact ⟨rfl, rfl⟩
   apply NDr.rd [0]
   ·intro fH TH
    exact ⟨rfl, rfl⟩
   apply NDr.any
   ·intro H'
    exact ⟨rfl, rfl⟩
   refine NDr.w _ ?_
   refine NP.mk (by kernel_rfl) ?_
   exact NRet.mk [] rfl (NFrz.mk (out.map txnA) (by simp) (by rw [List.drop_zero, List.take_of_length_le (by simp)]) ⟨.refl _, rfl⟩)
/-- What is left of a list of which some are gone. -/
def rem : List Txn → List Bool → List Txn
 | t :: l, g :: gs => if g then rem l gs else t :: rem l gs
 | _, _ => []
theorem rem_rep : ∀ l : List Txn, rem l (List.replicate l.length false) = l
 | [] => rfl
 | t :: l => by
  show rem (t :: l) (false :: List.replicate l.length false) = _
  unfold rem
  rw [if_neg (by simp), rem_rep l]
theorem rem_find {p : Txn → Bool} : ∀ {l : List Txn} {gs : List Bool} {i : Nat} {t : Txn}, gs.length = l.length → l[i]? = some t → (∀ (j : Nat) (x : Txn), j < i → l[j]? = some x → gs[j]? = some true ∨ p x = false) → gs[i]? = some false → p t = true →
  (rem l gs).find? p = some t ∧ (rem l gs).eraseP p = rem l (gs.set i true)
 | [], _, i, _, _, h, _, _, _ => by simp at h
 | y :: l, [], _, _, h, _, _, _, _ => by simp at h
 | y :: l, g :: gs, 0, t, hl, h, _, hg, hp => by
  simp only [List.getElem?_cons_zero, Option.some.injEq] at h hg
  subst h hg
  unfold rem
  simp [List.find?_cons, List.eraseP_cons, hp]
 | y :: l, g :: gs, i + 1, t, hl, h, hj, hg, hp => by
  simp only [List.getElem?_cons_succ] at h hg
  obtain ⟨h1, h2⟩ := rem_find (p := p) (l := l) (gs := gs) (i := i) (t := t) (by simpa using hl) h (fun j x hji hx => by
   have := hj (j + 1) x (by omega) (by simpa using hx)
   simpa using this) hg hp
  unfold rem
  rw [List.set_cons_succ]
  have h0 := hj 0 y (by omega) (by simp)
  cases g with
  | true => simp [rem, h1, h2]
  | false =>
   have : p y = false := by simpa using h0
   simp [rem, List.find?_cons, List.eraseP_cons, this, h1, h2]
theorem rem_none {p : Txn → Bool} : ∀ {l : List Txn} {gs : List Bool}, (∀ (j : Nat) (x : Txn), l[j]? = some x → gs[j]? = some true ∨ p x = false) → (rem l gs).find? p = none
 | [], _, _ => by simp [rem]
 | y :: l, [], _ => by simp [rem]
 | y :: l, g :: gs, h => by
  have ih := rem_none (p := p) (l := l) (gs := gs) fun j x hx => by simpa using h (j + 1) x (by simpa using hx)
  have h0 := h 0 y (by simp)
  unfold rem
  cases g with
  | true => simpa using ih
  | false =>
   have : p y = false := by simpa using h0
   simp [List.find?_cons, this]
   simpa using ih
end Go.Bv
namespace Go.Bv
open Go Go.Proofs
def okc (c : UInt8) : Bool := decide (c.toNat = 47) || decide (48 ≤ c.toNat ∧ c.toNat ≤ 57) || decide (97 ≤ c.toNat ∧ c.toNat ≤ 122)
def pref (s : List UInt8) : Bool := decide (s.length ≤ 16) && s.all okc
def keyB (s : List UInt8) : Bool := decide (s ≠ []) && pref s
def dotOk (d : Dot) : Bool := decide (0 ≤ d.node ∧ d.node < 8 ∧ 1 ≤ d.seq ∧ d.seq ≤ 1073741824 ∧ 0 ≤ d.at' ∧ d.at' < 8)
def kindOk (x : Item) : Bool := decide ((x.kind = 1 ∨ x.kind = 2) ∧ x.n = 0 ∨ x.kind = 3 ∧ x.elem = [])
def itemOk (x : Item) : Bool := keyB x.key && (pref x.field && (decide (x.elem.length ≤ 32) && (kindOk x && dotOk x.dot)))
def dlt (a b : Dot) : Bool := decide (a.node < b.node ∨ a.node = b.node ∧ (a.seq < b.seq ∨ a.seq = b.seq ∧ a.at' < b.at'))
/-- Neighbours. -/
def adj {α : Type} (r : α → α → Bool) : List α → Bool
 | [] => true
 | [_] => true
 | x :: y :: t => r x y && adj r (y :: t)
def made (node seq : Int) (e : Eff) : Item := ⟨e.key, e.field, e.kind, e.elem, e.n, ⟨node, seq, e.at'⟩⟩
def dropsOk (l : List Dot) : Bool := decide (l.length ≤ 64) && (l.all dotOk && adj dlt l)
def effOk (node seq : Int) (e : Eff) : Bool := dropsOk e.drops && (if e.kind = 0 then decide (e.drops ≠ [] ∧ e.elem = []) && itemOk (made node seq { e with kind := 1 }) else itemOk (made node seq e))
def ownOk (node seq : Int) (e : Eff) : Bool := e.drops.all fun d => decide (¬ (d.node = node ∧ d.seq = seq ∧ e.at' ≤ d.at'))
def effsOk (node seq : Int) (l : List Eff) : Bool := l.all (fun e => effOk node seq e && ownOk node seq e) && adj (fun a b => decide (a.at' < b.at')) l
def hasB (v : List Int) (node seq : Int) : Bool := decide (1 ≤ seq ∧ seq ≤ vatI v node)
def heardB (l : List Eff) (node seq : Int) (v : List Int) : Bool := l.all fun e => e.drops.all fun d => hasB v d.node d.seq || decide (d.node = node ∧ d.seq = seq)
def vecOk (v : List Int) : Bool := decide (trim v = v) && v.all fun n => decide (n ≤ 1073741824)
def formed (t : Txn) : Bool := decide (0 ≤ t.node ∧ t.node < 8 ∧ 1 ≤ t.seq ∧ t.seq ≤ 1073741824 ∧ t.deps.length ≤ 8 ∧ t.effs.length ≤ 8) &&
 (vecOk t.deps && (decide (vatI t.deps t.node = t.seq - 1) && (effsOk t.node t.seq t.effs && heardB t.effs t.node t.seq t.deps)))
theorem adj_iff {α : Type} (r : α → α → Bool) : ∀ (l : List α), adj r l = true ↔ ∀ (i : Nat) (h : i + 1 < l.length), r l[i] l[i + 1] = true
 | [] => by simp [adj]
 | [_] => by simp [adj]
 | x :: y :: t => by
  rw [adj, Bool.and_eq_true, adj_iff r (y :: t)]
  refine ⟨fun ⟨h1, h2⟩ i hi => ?_, fun h => ⟨h 0 (by simp), fun i hi => h (i + 1) (by simpa using hi)⟩⟩
  cases i with
  | zero => exact h1
  | succ i => exact h2 i (by simpa using hi)
theorem adj_pw {α : Type} {r : α → α → Bool} (ht : ∀ a b c, r a b = true → r b c = true → r a c = true) : ∀ (l : List α), adj r l = true ↔ l.Pairwise (fun a b => r a b = true)
 | [] => by simp [adj]
 | [_] => by simp [adj]
 | x :: y :: t => by
  rw [adj, Bool.and_eq_true, adj_pw ht (y :: t), List.pairwise_cons (a := x)]
  refine ⟨fun ⟨h1, h2⟩ => ⟨fun z hz => ?_, h2⟩, fun ⟨h1, h2⟩ => ⟨h1 y (List.mem_cons_self ..), h2⟩⟩
  rcases List.mem_cons.1 hz with rfl | hz
  ·exact h1
  ·exact ht _ _ _ h1 ((List.pairwise_cons.1 h2).1 z hz)
/-- One step of a look at all. -/
theorem all_step {α : Type} {p : α → Bool} {l : List α} {i : Nat} (h : i < l.length) (ht : ∀ x ∈ l.take i, p x = true) : (p l[i] = false → l.all p = false) ∧ (p l[i] = true → ∀ x ∈ l.take (i + 1), p x = true) := by
 refine ⟨fun hp => ?_, fun hp x hx => ?_⟩
 ·rw [List.all_eq_false]; exact ⟨l[i], List.getElem_mem h, by simp [hp]⟩
 ·rw [List.take_succ_eq_append_getElem h] at hx
  rcases List.mem_append.1 hx with hx | hx
  ·exact ht x hx
  ·rw [List.mem_singleton.1 hx]; exact hp
theorem all_end {α : Type} {p : α → Bool} {l : List α} (h : ∀ x ∈ l.take l.length, p x = true) : l.all p = true := by
 rw [List.take_length] at h
 exact List.all_eq_true.2 h
end Go.Bv
namespace Go.Bv
set_option linter.unusedSimpArgs false
set_option linter.unusedVariables false
set_option maxHeartbeats 4000000
open Go Go.Proofs
theorem take_eq_next {α : Type} {a b : List α} {i : Nat} (ht : a.take i = b.take i) (hia : i < a.length) (hib : i < b.length) (h : a[i] = b[i]) : a.take (i + 1) = b.take (i + 1) := by
 rw [List.take_succ_eq_append_getElem hia, List.take_succ_eq_append_getElem hib, ht, h]
theorem take_eq_end {α : Type} {a b : List α} (hl : a.length = b.length) (ht : a.take a.length = b.take a.length) : a = b := by
 rwa [List.take_length, hl, List.take_length] at ht
theorem txn_dec (a b : Txn) : decide (a = b) = (decide (a.node = b.node) && (decide (a.seq = b.seq) && (decide (a.deps = b.deps) && decide (a.effs = b.effs)))) := by
 rw [Bool.eq_iff_iff]; simp [Txn.ext_iff]
theorem dot_dec (a b : Dot) : decide (a = b) = (decide (a.node = b.node) && (decide (a.seq = b.seq) && decide (a.at' = b.at'))) := by
 rw [Bool.eq_iff_iff]; simp [Dot.ext_iff]
theorem sameDots_walk (a b : List Dot) (ha : a.length ≤ 2 ^ 40) : ACalls Tryz.prog Nm.ref10_SameDots [dotsA a, dotsA b] [] (.bool (decide (a = b))) [] := by
 refine ACalls_of tab (dr_snd tab mixed) Nm.ref10_SameDots_h rfl (by kernel_rfl) (Nat.le_of_ble_eq_true rfl) rfl ?_
 by_cases hl : a.length = b.length
 ·refine ND.yes (by (simp only [zLm, zLa, zLr, zLc, zLn, zLt, zLd]; omega)) ?_
  refine NLoop.mk [] [0, 1, 5] (fun m vs H => ∃ i, i ≤ a.length ∧ m = a.length - i ∧ a.take i = b.take i ∧ H = [] ∧ vs = [dotsA a, dotsA b, i64 i]) rfl ?_ ?_
  ·exact Canon.mk [] rfl ⟨a.length, 0, Nat.zero_le _, rfl, rfl, rfl, rfl⟩
  ·rintro m vs H ⟨i, hi, rfl, ht, rfl, rfl⟩
   by_cases hil : i < a.length
   ·have hib : i < b.length := by omega
    refine ND.yes (by (simp only [zLm, zLa, zLr, zLc, zLn, zLt, zLd]; omega)) ?_
    refine NP.mk (by kernel_rfl) ?_
    refine NDr.w _ ?_
    refine NDr.w _ ?_
    apply NDr.pure
    ·refine NP.mk (by omega) ?_
     refine NG.mapN (by omega) ?_
     exact ⟨rfl, rfl⟩
    refine NDr.w _ ?_
    refine NDr.w _ ?_
    refine NDr.w _ ?_
    apply NDr.pure
    ·refine NP.mk (by omega) ?_
     refine NG.mapN (by omega) ?_
     exact ⟨rfl, rfl⟩
    refine NDr.w _ ?_
    apply NDr.pure
    ·exact NB.det'
    refine NP.mk (by kernel_rfl) ?_
    refine NB.mk (fun hk3 => ?_) (fun hk3 => ?_)
    ·refine NRet.boolE (b := false) ?_ (NRet.mk [] rfl ⟨.refl _, rfl⟩)
     grind
    refine NW.w ?_
    exact Canon.mk [] rfl ⟨a.length - (i + 1), by omega, i + 1, by omega, rfl, take_eq_next ht hil hib (by grind [Dot.ext_iff]), rfl, rfl⟩
   ·have : i = a.length := by omega
    subst this
    rw [decide_eq_true (take_eq_end hl ht)]
    refine ND.no (by (simp only [zLm, zLa, zLr, zLc, zLn, zLt, zLd]; omega)) ?_
    exact NRet.mk [] rfl ⟨.refl _, rfl⟩
 ·rw [decide_eq_false fun e => hl (by rw [e])]
  refine ND.no (by (simp only [zLm, zLa, zLr, zLc, zLn, zLt, zLd]; omega)) ?_
  exact NRet.mk [] rfl ⟨.refl _, rfl⟩
theorem same10_walk (a b : List Eff) (ha : a.length ≤ 2 ^ 40) (hx : ∀ e ∈ a, smEff e) : ACalls Tryz.prog Nm.ref10_Same [effsA a, effsA b] [] (.bool (decide (a = b))) [] := by
 refine ACalls_of tab (dr_snd2 tab mixed) Nm.ref10_Same_h rfl (by kernel_rfl) (Nat.le_of_ble_eq_true rfl) rfl ?_
 by_cases hl : a.length = b.length
 ·refine ND.yes (by (simp only [zLm, zLa, zLr, zLc, zLn, zLt, zLd]; omega)) ?_
  refine NLoop.mk [] [0, 1, 5] (fun m vs H => ∃ i, i ≤ a.length ∧ m = a.length - i ∧ a.take i = b.take i ∧ H = [] ∧ vs = [effsA a, effsA b, i64 i]) rfl ?_ ?_
  ·exact Canon.mk [] rfl ⟨a.length, 0, Nat.zero_le _, rfl, rfl, rfl, rfl⟩
  ·rintro m vs H ⟨i, hi, rfl, ht, rfl, rfl⟩
   by_cases hil : i < a.length
   ·have hib : i < b.length := by omega
    have hd := sameDots_walk a[i].drops b[i].drops (hx _ (List.getElem_mem hil)).2.2.2
    refine ND.yes (by (simp only [zLm, zLa, zLr, zLc, zLn, zLt, zLd]; omega)) ?_
    refine NP.mk (by kernel_rfl) ?_
    refine NDr.w _ ?_
    refine NDr.w _ ?_
    apply NDr.pure
    ·refine NP.mk (by omega) ?_
     refine NG.mapN (by omega) ?_
     exact ⟨rfl, rfl⟩
    refine NDr.w _ ?_
    refine NDr.w _ ?_
    refine NDr.w _ ?_
    apply NDr.pure
    ·refine NP.mk (by omega) ?_
     refine NG.mapN (by omega) ?_
     exact ⟨rfl, rfl⟩
    refine NDr.w _ ?_
    apply NDr.efw []
    ·exact ⟨rfl, rfl⟩
    ·repeat (first | exact True.intro | refine ⟨by first | exact rfl | exact True.intro, ?_⟩)
    apply NDr.efw []
    ·exact ⟨rfl, rfl⟩
    ·repeat (first | exact True.intro | refine ⟨by first | exact rfl | exact True.intro, ?_⟩)
    apply NDr.efw [0]
    ·exact ⟨rfl, rfl⟩
    ·repeat (first | exact True.intro | refine ⟨by first | exact rfl | exact True.intro, ?_⟩)
    apply NDr.efw [1]
    ·exact ⟨rfl, rfl⟩
    ·repeat (first | exact True.intro | refine ⟨by first | exact rfl | exact True.intro, ?_⟩)
    refine NP.mk (by kernel_rfl) ?_
    refine NB.dec (fun hk2 => ?_) (fun hk2 => ?_)
    rotate_left
    ·refine NRet.boolE (b := false) ?_ (NRet.mk [] rfl ⟨.refl _, rfl⟩)
     grind
    refine NB.dec (fun hk3 => ?_) (fun hk3 => ?_)
    rotate_left
    ·refine NRet.boolE (b := false) ?_ (NRet.mk [] rfl ⟨.refl _, rfl⟩)
     grind
    refine NB.dec (fun hk4 => ?_) (fun hk4 => ?_)
    rotate_left
    ·refine NRet.boolE (b := false) ?_ (NRet.mk [] rfl ⟨.refl _, rfl⟩)
     grind
    refine NB.dec (fun hk5 => ?_) (fun hk5 => ?_)
    rotate_left
    ·refine NRet.boolE (b := false) ?_ (NRet.mk [] rfl ⟨.refl _, rfl⟩)
     grind
    refine NB.dec (fun hk6 => ?_) (fun hk6 => ?_)
    rotate_left
    ·refine NRet.boolE (b := false) ?_ (NRet.mk [] rfl ⟨.refl _, rfl⟩)
     grind
    refine NB.dec (fun hk7 => ?_) (fun hk7 => ?_)
    rotate_left
    ·refine NRet.boolE (b := false) ?_ (NRet.mk [] rfl ⟨.refl _, rfl⟩)
     grind
    refine NCall.call (hd) rfl rfl ?_
    refine NB.mk (fun hk8 => ?_) (fun hk8 => ?_)
    rotate_left
    ·refine NRet.boolE (b := false) ?_ (NRet.mk [] rfl ⟨.refl _, rfl⟩)
     grind
    refine NW.w ?_
    exact Canon.mk [] rfl ⟨a.length - (i + 1), by omega, i + 1, by omega, rfl, take_eq_next ht hil hib (by grind [Eff.ext_iff]), rfl, rfl⟩
   ·have : i = a.length := by omega
    subst this
    rw [decide_eq_true (take_eq_end hl ht)]
    refine ND.no (by (simp only [zLm, zLa, zLr, zLc, zLn, zLt, zLd]; omega)) ?_
    exact NRet.mk [] rfl ⟨.refl _, rfl⟩
 ·rw [decide_eq_false fun e => hl (by rw [e])]
  refine ND.no (by (simp only [zLm, zLa, zLr, zLc, zLn, zLt, zLd]; omega)) ?_
  exact NRet.mk [] rfl ⟨.refl _, rfl⟩
theorem same13_walk (a b : Txn) (ha : smTxn a) : ACalls Tryz.prog Nm.ref13_Same [txnA a, txnA b] [] (.bool (decide (a = b))) [] := by
 refine ACalls_of tab (dr_snd tab mixed) Nm.ref13_Same_h rfl (by kernel_rfl) (Nat.le_of_ble_eq_true rfl) rfl ?_
 obtain ⟨h1, h2, h3, h4⟩ := ha
 have hv := equal7_walk a.deps b.deps (by omega)
 have he := same10_walk a.effs b.effs (by omega) h4
 rw [txn_dec]
 refine NB.dec (fun hk1 => ?_) (fun hk1 => ?_)
 ·refine NB.dec (fun hk2 => ?_) (fun hk2 => ?_)
  ·refine NCall.call (hv) rfl rfl ?_
   refine NB.mk (fun hk3 => ?_) (fun hk3 => ?_)
   ·refine NB.yes (by assumption) ?_
    refine NB.yes (by assumption) ?_
    refine NB.yes (by assumption) ?_
    refine NB.yes (by assumption) ?_
    refine NCall.call (he) rfl rfl ?_
    refine NB.yes (by assumption) ?_
    refine NRet.boolE ?_ (NRet.mk [] rfl ⟨.refl _, rfl⟩)
    (simp [*]; done)
   refine NB.no (by assumption) ?_
   refine NB.no (by assumption) ?_
   refine NB.no (by assumption) ?_
   refine NB.no (by assumption) ?_
   refine NB.no (by assumption) ?_
   refine NRet.boolE (b := false) ?_ (NRet.mk [] rfl ⟨.refl _, rfl⟩)
   (simp [*]; done)
  refine NRet.boolE (b := false) ?_ (NRet.mk [] rfl ⟨.refl _, rfl⟩)
  (simp [*]; done)
 refine NRet.boolE (b := false) ?_ (NRet.mk [] rfl ⟨.refl _, rfl⟩)
 (simp [*]; done)
theorem sameAll_walk (a b : List Txn) (ha : a.length ≤ 2 ^ 40) (hx : ∀ e ∈ a, smTxn e) : ACalls Tryz.prog Nm.ref13_SameAll [txnsA a, txnsA b] [] (.bool (decide (a = b))) [] := by
 refine ACalls_of tab (dr_snd tab mixed) Nm.ref13_SameAll_h rfl (by kernel_rfl) (Nat.le_of_ble_eq_true rfl) rfl ?_
 by_cases hl : a.length = b.length
 ·refine ND.yes (by (simp only [zLm, zLa, zLr, zLc, zLn, zLt, zLd]; omega)) ?_
  refine NLoop.mk [] [0, 1, 5] (fun m vs H => ∃ i, i ≤ a.length ∧ m = a.length - i ∧ a.take i = b.take i ∧ H = [] ∧ vs = [txnsA a, txnsA b, i64 i]) rfl ?_ ?_
  ·exact Canon.mk [] rfl ⟨a.length, 0, Nat.zero_le _, rfl, rfl, rfl, rfl⟩
  ·rintro m vs H ⟨i, hi, rfl, ht, rfl, rfl⟩
   by_cases hil : i < a.length
   ·have hib : i < b.length := by omega
    have hd := same13_walk a[i] b[i] (hx _ (List.getElem_mem hil))
    by_cases he : a[i] = b[i]
    ·rw [decide_eq_true he] at hd
     refine ND.yes (by (simp only [zLm, zLa, zLr, zLc, zLn, zLt, zLd]; omega)) ?_
     refine NP.mk (by kernel_rfl) ?_
     refine NDr.w _ ?_
     refine NDr.w _ ?_
     apply NDr.pure
     ·refine NP.mk (by omega) ?_
      refine NG.mapN (by omega) ?_
      exact ⟨rfl, rfl⟩
     refine NDr.w _ ?_
     refine NDr.w _ ?_
     refine NDr.w _ ?_
     apply NDr.pure
     ·refine NP.mk (by omega) ?_
      refine NG.mapN (by omega) ?_
      exact ⟨rfl, rfl⟩
     refine NDr.w _ ?_
     apply NDr.pure
     ·refine NCall.call (hd) rfl rfl ?_
      exact ⟨rfl, rfl⟩
     refine NDr.w _ ?_
     refine NP.mk (by kernel_rfl) ?_
     refine NW.w ?_
     exact Canon.mk [] rfl ⟨a.length - (i + 1), by omega, i + 1, by omega, rfl, take_eq_next ht hil hib he, rfl, rfl⟩
    ·rw [decide_eq_false he] at hd
     rw [decide_eq_false fun e => he (by simp only [e])]
     refine ND.yes (by (simp only [zLm, zLa, zLr, zLc, zLn, zLt, zLd]; omega)) ?_
     refine NP.mk (by kernel_rfl) ?_
     refine NDr.w _ ?_
     refine NDr.w _ ?_
     apply NDr.pure
     ·refine NP.mk (by omega) ?_
      refine NG.mapN (by omega) ?_
      exact ⟨rfl, rfl⟩
     refine NDr.w _ ?_
     refine NDr.w _ ?_
     refine NDr.w _ ?_
     apply NDr.pure
     ·refine NP.mk (by omega) ?_
      refine NG.mapN (by omega) ?_
      exact ⟨rfl, rfl⟩
     refine NDr.w _ ?_
     apply NDr.pure
     ·refine NCall.call (hd) rfl rfl ?_
      exact ⟨rfl, rfl⟩
     refine NDr.w _ ?_
     refine NP.mk (by kernel_rfl) ?_
     exact NRet.mk [] rfl ⟨.refl _, rfl⟩
   ·have : i = a.length := by omega
    subst this
    rw [decide_eq_true (take_eq_end hl ht)]
    refine ND.no (by (simp only [zLm, zLa, zLr, zLc, zLn, zLt, zLd]; omega)) ?_
    exact NRet.mk [] rfl ⟨.refl _, rfl⟩
 ·rw [decide_eq_false fun e => hl (by rw [e])]
  refine ND.no (by (simp only [zLm, zLa, zLr, zLc, zLn, zLt, zLd]; omega)) ?_
  exact NRet.mk [] rfl ⟨.refl _, rfl⟩
theorem copy10_walk (l : List Eff) (hl : l.length ≤ 2 ^ 30) (hx : ∀ e ∈ l, smEff e) : ACalls Tryz.prog Nm.ref10_Copy [effsA l] [] (effsA l) [] := by
 refine ACalls_of tab (dr_snd tab mixed) Nm.ref10_Copy_h rfl (by kernel_rfl) (Nat.le_of_ble_eq_true rfl) rfl ?_
 refine NLoop.mk [(3, .agg 7)] [0, 3, 4] (fun m vs H => ∃ i, i ≤ l.length ∧ m = l.length - i ∧ H = [.row .vrow (.agg 7) ((l.take i).map effA)] ∧ vs = [effsA l, .own 0 0 ((l.take i).map effA).length, i64 i]) rfl ?_ ?_
 ·exact Canon.mk [0] rfl ⟨l.length, 0, Nat.zero_le _, rfl, rfl, rfl⟩
 ·rintro m vs H ⟨i, hi, rfl, rfl, rfl⟩
  by_cases hil : i < l.length
  ·have hs := snocMap effA l hil
   obtain ⟨x1, x2, x3, x4⟩ := hx _ (List.getElem_mem hil)
   refine ND.yes (by (simp only [zLm, zLa, zLr, zLc, zLn, zLt, zLd]; omega)) ?_
   refine NP.mk (by omega) ?_
   refine NG.mapN (by omega) ?_
   refine NFz.own ?_
   refine NApp.roA rfl (by simp; omega) ?_
   refine NFz.own ?_
   refine NApp.endA rfl (by simp; omega) ?_
   refine NW.w ?_
   exact Canon.mk [3] rfl ⟨l.length - (i + 1), by omega, i + 1, by omega, rfl, by rw [hs]; rfl, by rw [hs]; rfl⟩
  ·have : i = l.length := by omega
   subst this
   rw [List.take_length]
   refine ND.no (by (simp only [zLm, zLa, zLr, zLc, zLn, zLt, zLd]; omega)) ?_
   exact NRet.mk [] rfl (NFrz.mk (l.map effA) (by simp) (by rw [List.drop_zero, List.take_of_length_le (by simp)]) ⟨.refl _, rfl⟩)
theorem copy13_own (l : List Txn) (hl : l.length ≤ 2 ^ 30) (hx : ∀ t ∈ l, smTxn t) : ACalls Tryz.prog Nm.ref13_Copy [txnsA l] [] (.own 0 0 l.length) [.row .vrow (.agg 4) (l.map txnA)] := by
 refine ACalls_of tab (dr_snd tab mixed) Nm.ref13_Copy_h rfl (by kernel_rfl) (Nat.le_of_ble_eq_true rfl) rfl ?_
 refine NLoop.mk [(3, .agg 4)] [0, 3, 4] (fun m vs H => ∃ i, i ≤ l.length ∧ m = l.length - i ∧ H = [.row .vrow (.agg 4) ((l.take i).map txnA)] ∧ vs = [txnsA l, .own 0 0 ((l.take i).map txnA).length, i64 i]) rfl ?_ ?_
 ·exact Canon.mk [0] rfl ⟨l.length, 0, Nat.zero_le _, rfl, rfl, rfl⟩
 ·rintro m vs H ⟨i, hi, rfl, rfl, rfl⟩
  by_cases hil : i < l.length
  ·have hs := snocMap txnA l hil
   obtain ⟨x1, x2, x3, x4⟩ := hx _ (List.getElem_mem hil)
   have h1 := copy7_walk l[i].deps (by omega)
   have h2 := copy10_walk l[i].effs (by omega) x4
   refine ND.yes (by (simp only [zLm, zLa, zLr, zLc, zLn, zLt, zLd]; omega)) ?_
   refine NP.mk (by omega) ?_
   refine NG.mapN (by omega) ?_
   refine NCall.call (h1) rfl rfl ?_
   refine NCall.call (h2) rfl rfl ?_
   refine NFz.own ?_
   refine NApp.endA rfl (by simp; omega) ?_
   refine NW.w ?_
   exact Canon.mk [2] rfl ⟨l.length - (i + 1), by omega, i + 1, by omega, rfl, by rw [hs]; rfl, by rw [hs]; rfl⟩
  ·have : i = l.length := by omega
   subst this
   rw [List.take_length]
   refine ND.no (by (simp only [zLm, zLa, zLr, zLc, zLn, zLt, zLd]; omega)) ?_
   exact NRet.mk [0] rfl ⟨by rw [List.length_map]; exact .refl _, rfl⟩
theorem copy13_walk (l : List Txn) (hl : l.length ≤ 2 ^ 30) (hx : ∀ t ∈ l, smTxn t) : ACalls Tryz.prog Nm.ref13_Copy [txnsA l] [] (txnsA l) [] := (copy13_own l hl hx).drop (dropL (by simp))
def shortE (e : Eff) : Bool := decide (e.key.length ≤ 300 ∧ e.field.length ≤ 300 ∧ e.elem.length ≤ 300 ∧ e.drops.length ≤ 70)
def shortEs (l : List Eff) : Bool := decide (l.length ≤ 20) && l.all shortE
def shortT (l : List Txn) : Bool := decide (l.length ≤ 24) && l.all fun t => decide (t.deps.length ≤ 60) && shortEs t.effs
theorem short10_walk (l : List Eff) (hl : l.length ≤ 2 ^ 47) (hx : ∀ e ∈ l, okEff e) : ACalls Tryz.prog Nm.ref10_Short [effsA l] [] (.bool (shortEs l)) [] := by
 refine ACalls_of tab (dr_snd tab mixed) Nm.ref10_Short_h rfl (by kernel_rfl) (Nat.le_of_ble_eq_true rfl) rfl ?_
 unfold shortEs
 by_cases h : l.length ≤ 20
 ·rw [decide_eq_true h, Bool.true_and]
  refine ND.no (by (simp only [zLm, zLa, zLr, zLc, zLn, zLt, zLd]; omega)) ?_
  refine NLoop.mk [] [0, 3] (fun m vs H => ∃ i, i ≤ l.length ∧ m = l.length - i ∧ (∀ x ∈ l.take i, shortE x = true) ∧ H = [] ∧ vs = [effsA l, i64 i]) rfl ?_ ?_
  ·exact Canon.mk [] rfl ⟨l.length, 0, Nat.zero_le _, rfl, by simp, rfl, rfl⟩
  ·rintro m vs H ⟨i, hi, rfl, ht, rfl, rfl⟩
   by_cases hil : i < l.length
   ·obtain ⟨f1, f2⟩ := all_step hil ht
    obtain ⟨_, x1, x2, _, x3, _, x4, _⟩ := hx _ (List.getElem_mem hil)
    have x1 := reach_lt x1
    have x2 := reach_lt x2
    have x3 := reach_lt x3
    have x4 := reach_lt x4
    cases hp : shortE l[i] with
    | true =>
     have hp' := hp
     unfold shortE at hp'
     simp only [decide_eq_true_eq] at hp'
     refine ND.yes (by (simp only [zLm, zLa, zLr, zLc, zLn, zLt, zLd]; omega)) ?_
     refine NP.mk (by omega) ?_
     refine NG.mapN (by omega) ?_
     refine ND.no (by omega) ?_
     refine NP.mk (by omega) ?_
     refine NG.mapN (by omega) ?_
     refine ND.no (by omega) ?_
     refine NP.mk (by omega) ?_
     refine NG.mapN (by omega) ?_
     refine ND.no (by omega) ?_
     refine NP.mk (by omega) ?_
     refine NG.mapN (by omega) ?_
     refine ND.no (by (simp only [zLm, zLa, zLr, zLc, zLn, zLt, zLd]; omega)) ?_
     refine NW.w ?_
     exact Canon.mk [] rfl ⟨l.length - (i + 1), by omega, i + 1, by omega, rfl, f2 hp, rfl, rfl⟩
    | false =>
     rw [f1 hp]
     have hp' := hp
     unfold shortE at hp'
     simp only [decide_eq_false_iff_not] at hp'
     refine ND.yes (by (simp only [zLm, zLa, zLr, zLc, zLn, zLt, zLd]; omega)) ?_
     refine NP.mk (by omega) ?_
     refine NG.mapN (by omega) ?_
     refine NB.dec (fun hk2 => ?_) (fun hk2 => ?_)
     ·exact NRet.mk [] rfl ⟨.refl _, rfl⟩
     refine NP.mk (by omega) ?_
     refine NG.mapN (by omega) ?_
     refine NB.dec (fun hk3 => ?_) (fun hk3 => ?_)
     ·exact NRet.mk [] rfl ⟨.refl _, rfl⟩
     refine NP.mk (by omega) ?_
     refine NG.mapN (by omega) ?_
     refine NB.dec (fun hk4 => ?_) (fun hk4 => ?_)
     ·exact NRet.mk [] rfl ⟨.refl _, rfl⟩
     refine NP.mk (by omega) ?_
     refine NG.mapN (by omega) ?_
     refine ND.yes (by (simp only [zLm, zLa, zLr, zLc, zLn, zLt, zLd]; omega)) ?_
     exact NRet.mk [] rfl ⟨.refl _, rfl⟩
   ·have : i = l.length := by omega
    subst this
    rw [all_end ht]
    refine ND.no (by (simp only [zLm, zLa, zLr, zLc, zLn, zLt, zLd]; omega)) ?_
    exact NRet.mk [] rfl ⟨.refl _, rfl⟩
 ·rw [decide_eq_false h, Bool.false_and]
  refine ND.yes (by (simp only [zLm, zLa, zLr, zLc, zLn, zLt, zLd]; omega)) ?_
  exact NRet.mk [] rfl ⟨.refl _, rfl⟩
theorem short13_walk (l : List Txn) (hl : l.length ≤ 2 ^ 47) (hx : ∀ e ∈ l, okTxn e) : ACalls Tryz.prog Nm.ref13_Short [txnsA l] [] (.bool (shortT l)) [] := by
 refine ACalls_of tab (dr_snd tab mixed) Nm.ref13_Short_h rfl (by kernel_rfl) (Nat.le_of_ble_eq_true rfl) rfl ?_
 unfold shortT
 by_cases h : l.length ≤ 24
 ·rw [decide_eq_true h, Bool.true_and]
  refine ND.no (by (simp only [zLm, zLa, zLr, zLc, zLn, zLt, zLd]; omega)) ?_
  refine NLoop.mk [] [0, 3] (fun m vs H => ∃ i, i ≤ l.length ∧ m = l.length - i ∧ (∀ x ∈ l.take i, (decide (x.deps.length ≤ 60) && shortEs x.effs) = true) ∧ H = [] ∧ vs = [txnsA l, i64 i]) rfl ?_ ?_
  ·exact Canon.mk [] rfl ⟨l.length, 0, Nat.zero_le _, rfl, by simp, rfl, rfl⟩
  ·rintro m vs H ⟨i, hi, rfl, ht, rfl, rfl⟩
   by_cases hil : i < l.length
   ·obtain ⟨f1, f2⟩ := all_step hil ht
    obtain ⟨_, _, ⟨x1, _⟩, ⟨x2, x3⟩⟩ := hx _ (List.getElem_mem hil)
    have x1 := reach_lt x1
    have x2 := reach_lt x2
    have hs := short10_walk l[i].effs (by omega) x3
    by_cases hd : l[i].deps.length ≤ 60
    ·cases hp : shortEs l[i].effs with
     | true =>
      rw [hp] at hs
      refine ND.yes (by (simp only [zLm, zLa, zLr, zLc, zLn, zLt, zLd]; omega)) ?_
      refine NP.mk (by omega) ?_
      refine NG.mapN (by omega) ?_
      refine ND.no (by (simp only [zLm, zLa, zLr, zLc, zLn, zLt, zLd]; omega)) ?_
      refine NP.mk (by omega) ?_
      refine NG.mapN (by omega) ?_
      refine NCall.call (hs) rfl rfl ?_
      refine NW.w ?_
      exact Canon.mk [] rfl ⟨l.length - (i + 1), by omega, i + 1, by omega, rfl, f2 (by rw [decide_eq_true hd, hp]; rfl), rfl, rfl⟩
     | false =>
      rw [hp] at hs
      rw [f1 (by rw [hp, Bool.and_false])]
      refine ND.yes (by (simp only [zLm, zLa, zLr, zLc, zLn, zLt, zLd]; omega)) ?_
      refine NP.mk (by omega) ?_
      refine NG.mapN (by omega) ?_
      refine ND.no (by (simp only [zLm, zLa, zLr, zLc, zLn, zLt, zLd]; omega)) ?_
      refine NP.mk (by omega) ?_
      refine NG.mapN (by omega) ?_
      refine NCall.call (hs) rfl rfl ?_
      exact NRet.mk [] rfl ⟨.refl _, rfl⟩
    ·rw [f1 (by rw [decide_eq_false hd]; rfl)]
     refine ND.yes (by (simp only [zLm, zLa, zLr, zLc, zLn, zLt, zLd]; omega)) ?_
     refine NP.mk (by omega) ?_
     refine NG.mapN (by omega) ?_
     refine ND.yes (by (simp only [zLm, zLa, zLr, zLc, zLn, zLt, zLd]; omega)) ?_
     exact NRet.mk [] rfl ⟨.refl _, rfl⟩
   ·have : i = l.length := by omega
    subst this
    rw [all_end ht]
    refine ND.no (by (simp only [zLm, zLa, zLr, zLc, zLn, zLt, zLd]; omega)) ?_
    exact NRet.mk [] rfl ⟨.refl _, rfl⟩
 ·rw [decide_eq_false h, Bool.false_and]
  refine ND.yes (by (simp only [zLm, zLa, zLr, zLc, zLn, zLt, zLd]; omega)) ?_
  exact NRet.mk [] rfl ⟨.refl _, rfl⟩
end Go.Bv
