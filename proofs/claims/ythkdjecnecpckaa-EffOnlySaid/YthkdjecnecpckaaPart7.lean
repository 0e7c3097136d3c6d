/- Part of the lift: an abstract walk of the program's code, proved sound, and what it shows of this program. -/
import Derived.Test.YthkdjecnecpckaaPart5
import Derived.Test.YthkdjecnecpckaaPart6
import Derived.Sort.AssemblyPlain
namespace Go.Bv
open Go Go.Proofs
def okInt (z : Int) : Prop := -9223372036854775808 ≤ z ∧ z < 9223372036854775808
@[ext] structure Dot where
  node : Int
  seq : Int
  at' : Int
  deriving DecidableEq
@[ext] structure Item where
  key : List UInt8
  field : List UInt8
  kind : Int
  elem : List UInt8
  n : Int
  dot : Dot
  deriving DecidableEq
@[ext] structure Eff where
  at' : Int
  key : List UInt8
  field : List UInt8
  kind : Int
  elem : List UInt8
  n : Int
  drops : List Dot
  deriving DecidableEq
@[ext] structure Txn where
  node : Int
  seq : Int
  deps : List Int
  effs : List Eff
  deriving DecidableEq
@[ext] structure Store where
  heard : List Int
  items : List Item
  deriving DecidableEq
@[ext] structure Past where
  floor : List Int
  list : List Txn
  deriving DecidableEq
@[ext] structure Queue where
  most : Int
  list : List Txn
  deriving DecidableEq
@[ext] structure Packet where
  src : Int
  dst : Int
  bytes : List UInt8
  deriving DecidableEq
@[ext] structure Net where
  way : List Packet
  deriving DecidableEq
structure NetOp where
  do' : Int
  src : Int
  dst : Int
  i : Int
  b : List UInt8
structure JOp where
  do' : Int
  keep : Int
  b : List UInt8
structure QOp where
  hears : Bool
  n : Int
  t : Txn
def dotC (x : Dot) : List AV := [i64 x.node, i64 x.seq, i64 x.at']
def dotA (x : Dot) : AV := .agg (dotC x)
def itemC (x : Item) : List AV := [.str x.key, .str x.field, i64 x.kind, .str x.elem, i64 x.n, i64 x.dot.node, i64 x.dot.seq, i64 x.dot.at']
def itemA (x : Item) : AV := .agg (itemC x)
def dotsA (l : List Dot) : AV := .list (.agg 3) (l.map dotA)
def itemsA (l : List Item) : AV := .list (.agg 8) (l.map itemA)
def effC (x : Eff) : List AV := [i64 x.at', .str x.key, .str x.field, i64 x.kind, .str x.elem, i64 x.n, dotsA x.drops]
def effA (x : Eff) : AV := .agg (effC x)
def effsA (l : List Eff) : AV := .list (.agg 7) (l.map effA)
def okDot (x : Dot) : Prop := okInt x.node ∧ okInt x.seq ∧ okInt x.at'
def okItem (x : Item) : Prop := x.key.length ≤ reachBytes ∧ x.field.length ≤ reachBytes ∧ okInt x.kind ∧ x.elem.length ≤ reachBytes ∧ okInt x.n ∧ okDot x.dot
def okEff (x : Eff) : Prop := okInt x.at' ∧ x.key.length ≤ reachBytes ∧ x.field.length ≤ reachBytes ∧ okInt x.kind ∧ x.elem.length ≤ reachBytes ∧ okInt x.n ∧ (x.drops.length ≤ reachBytes ∧ ∀ y ∈ x.drops, okDot y)
theorem drop_more {xs l : List AV} {o n : Nat} (h : (xs.drop o).take n = l) (hn : l.length = n) : xs.drop o = l ++ xs.drop (o + n) := by
  conv => lhs; rw [← List.take_append_drop n (xs.drop o), h, List.drop_drop]
theorem drop_all' {xs : List AV} {n : Nat} (h : xs.length = n) : xs.drop n = [] := List.drop_eq_nil_of_le (by omega)
end Go.Bv
namespace Go.Bv
set_option linter.unusedSimpArgs false
set_option linter.unusedVariables false
set_option maxHeartbeats 4000000
open Go Go.Proofs
end Go.Bv
namespace Go.Bv
set_option linter.unusedSimpArgs false
set_option linter.unusedVariables false
set_option maxHeartbeats 4000000
open Go Go.Proofs
end Go.Bv
namespace Go.Bv
set_option linter.unusedSimpArgs false
set_option linter.unusedVariables false
set_option maxHeartbeats 4000000
open Go Go.Proofs
def ready (v : List Int) (t : Txn) : Bool := decide (1 ≤ t.seq) && (decide (t.seq - 1 = vatI v t.node) && vwithin t.deps v)
def next (v : List Int) (t : Txn) : List Int := if 0 ≤ t.node ∧ t.node < 8 ∧ 0 ≤ t.seq ∧ t.seq ≤ 1073741824 then trim (vset v t.node.toNat t.seq) else trim v
def ixI {α : Type} (p : α → Bool) (l : List α) : Int := match l.findIdx? p with
  | some i => i
  | none => -1
theorem find_step {α : Type} {p : α → Bool} {l : List α} {i : Nat} (h : i < l.length) (ht : ∀ x ∈ l.take i, p x = false) : (p l[i] = true → ixI p l = i) ∧ (p l[i] = false → ∀ x ∈ l.take (i + 1), p x = false) := by
  refine ⟨fun hp => ?_, fun hp x hx => ?_⟩
  · have : l.findIdx? p = some i := by
      rw [List.findIdx?_eq_some_iff_getElem]
      refine ⟨h, hp, fun j hj => ?_⟩
      have := ht l[j] (List.mem_take_iff_getElem.2 ⟨j, by omega, rfl⟩)
      simp [this]
    unfold ixI; rw [this]
  · rw [List.take_succ_eq_append_getElem h] at hx
    rcases List.mem_append.1 hx with hx | hx
    · exact ht x hx
    · rw [List.mem_singleton.1 hx]; exact hp
theorem find_none {α : Type} {p : α → Bool} {l : List α} (h : ∀ x ∈ l, p x = false) : ixI p l = -1 := by
  have : l.findIdx? p = none := by rw [List.findIdx?_eq_none_iff]; exact h
  unfold ixI; rw [this]
end Go.Bv
namespace Go.Bv
set_option linter.unusedSimpArgs false
set_option linter.unusedVariables false
set_option maxHeartbeats 4000000
open Go Go.Proofs
theorem hasPrefixL_walk (s p : List UInt8) (hs : s.length ≤ 2 ^ 47) : ACalls Try.prog Nm.internal_stringslite_HasPrefix [.str s, .str p] [] (.bool (decide (s.take p.length = p))) [] := by
  refine ACalls_of tab (dr_snd tab mixed) Nm.internal_stringslite_HasPrefix_h rfl (by kernel_rfl) (Nat.le_of_ble_eq_true rfl) rfl ?_
  by_cases h1 : p.length ≤ s.length
  · by_cases h2 : s.take p.length = p
    · rw [decide_eq_true h2]
      refine ND.yes (by omega) ?_
      refine NP.mk (by omega) ?_
      refine ND.yes (by (simp; omega)) ?_
      exact NRet.mk [] rfl ⟨.refl _, rfl⟩
    · rw [decide_eq_false h2]
      refine ND.yes (by omega) ?_
      refine NP.mk (by omega) ?_
      refine ND.no (by (simp; omega)) ?_
      exact NRet.mk [] rfl ⟨.refl _, rfl⟩
  · rw [decide_eq_false (fun h => h1 (by rw [← h, List.length_take]; omega))]
    refine ND.no (by omega) ?_
    exact NRet.mk [] rfl ⟨.refl _, rfl⟩
theorem hasPrefix_walk (s p : List UInt8) (hs : s.length ≤ 2 ^ 47) : ACalls Try.prog Nm.strings_HasPrefix [.str s, .str p] [] (.bool (decide (s.take p.length = p))) [] := by
  refine ACalls_of tab (dr_snd tab mixed) Nm.strings_HasPrefix_h rfl (by kernel_rfl) (Nat.le_of_ble_eq_true rfl) rfl ?_
  refine NCall.call (hasPrefixL_walk s p hs) rfl rfl ?_
  exact NRet.mk [] rfl ⟨.refl _, rfl⟩
theorem cloneD_walk (es : List AV) (hl : es.length ≤ 2 ^ 40) : ACalls Try.prog Nm.slices_Clone_api_Dot_api_Dot [.list (.agg 3) es] [] (.own 0 0 es.length) [.row .vrow (.agg 3) es] := by
  refine ACalls_of tab (dr_snd tab mixed) Nm.slices_Clone_api_Dot_api_Dot_h rfl (by kernel_rfl) (Nat.le_of_ble_eq_true rfl) rfl ?_
  refine NN.mk (fun h => ?_) ?_
  · subst h
    exact NRet.ad [(2, .agg 3)] [0] rfl ⟨.refl _, rfl⟩
  · refine NFz.own ?_
    refine NApp.endA rfl (by simp; omega) ?_
    exact NRet.mk [1] rfl ⟨.refl _, rfl⟩
end Go.Bv
namespace Go.Bv
set_option linter.unusedSimpArgs false
set_option linter.unusedVariables false
set_option maxHeartbeats 4000000
open Go Go.Proofs
def strsA (l : List (List UInt8)) : AV := .list .leaf (l.map AV.str)
def begins (s p : List UInt8) : Bool := decide (s.take p.length = p)
theorem covF_walk (k p : List UInt8) (hk : k.length ≤ 2 ^ 47) : ACalls Try.prog Nm.zone_Covers_1 [.str p, .ptr 0 0 0] [.row .box .leaf [.str k]] (.bool (begins k p)) [.row .box .leaf [.str k]] := by
  refine ACalls_of tab (dr_snd tab mixed) Nm.zone_Covers_1_h rfl (by kernel_rfl) (Nat.le_of_ble_eq_true rfl) rfl ?_
  refine NCall.call (hasPrefix_walk k p hk) rfl rfl ?_
  exact NRet.mk [] rfl ⟨.refl _, rfl⟩
theorem indexS_walk (g : Nat) (k : List UInt8) (l : List (List UInt8)) (p : List UInt8 → Bool) (hl : l.length ≤ 2 ^ 40) (hg : ∀ t ∈ l, ACalls Try.prog g [.str t, .ptr 0 0 0] [.row .box .leaf [.str k]] (.bool (p t)) [.row .box .leaf [.str k]]) :
    ACalls Try.prog Nm.slices_IndexFunc_string_string [strsA l, .fn g [.ptr 0 0 0]] [.row .box .leaf [.str k]] (i64 (ixI p l)) [.row .box .leaf [.str k]] := by
  refine ACalls_of tab (dr_snd tab mixed) Nm.slices_IndexFunc_string_string_h rfl (by kernel_rfl) (Nat.le_of_ble_eq_true rfl) rfl ?_
  refine NLoop.mk [] [0, 1, 6, 7, 8] (fun m vs H => ∃ i, i ≤ l.length ∧ m = l.length - i ∧ (∀ x ∈ l.take i, p x = false) ∧ H = [.row .box .leaf [.str k]] ∧ vs = [strsA l, .fn g [.ptr 0 0 0], strsA l, i64 l.length, i64 i]) rfl ?_ ?_
  · exact Canon.mk [] rfl ⟨l.length, 0, Nat.zero_le _, rfl, by simp, rfl, by simp [strsA, i64]⟩
  · rintro m vs H ⟨i, hi, rfl, ht, rfl, rfl⟩
    by_cases hil : i < l.length
    · have hc := hg _ (List.getElem_mem hil)
      obtain ⟨f1, f2⟩ := find_step hil ht
      cases hp : p l[i] with
      | true =>
        rw [hp] at hc
        rw [f1 hp]
        refine ND.yes (by omega) ?_
        refine NP.mk (by omega) ?_
        refine NG.mapN (by omega) ?_
        refine NCall.atA (hc) ?_
        exact NRet.mk [] rfl ⟨.refl _, rfl⟩
      | false =>
        rw [hp] at hc
        refine ND.yes (by omega) ?_
        refine NP.mk (by omega) ?_
        refine NG.mapN (by omega) ?_
        refine NCall.atA (hc) ?_
        refine NW.i64 (by omega) (by omega) ?_
        exact Canon.mk [] rfl ⟨l.length - (i + 1), by omega, i + 1, by omega, rfl, f2 hp, rfl, rfl⟩
    · have : i = l.length := by omega
      subst this
      rw [List.take_length] at ht
      rw [find_none ht]
      refine ND.no (by omega) ?_
      exact NRet.mk [] rfl ⟨.refl _, rfl⟩
theorem ixI_any {α : Type} (p : α → Bool) (l : List α) : l.any p = decide (0 ≤ ixI p l) := by
  unfold ixI
  cases h : l.findIdx? p with
  | none =>
    rw [List.findIdx?_eq_none_iff] at h
    rw [List.any_eq_false.2 (fun x hx => by simp [h x hx])]
    rfl
  | some i =>
    rw [List.findIdx?_eq_some_iff_getElem] at h
    obtain ⟨h1, h2, _⟩ := h
    rw [List.any_eq_true.2 ⟨_, List.getElem_mem h1, h2⟩]
    simp
theorem containsS_walk (g : Nat) (k : List UInt8) (l : List (List UInt8)) (p : List UInt8 → Bool) (hl : l.length ≤ 2 ^ 40) (hg : ∀ t ∈ l, ACalls Try.prog g [.str t, .ptr 0 0 0] [.row .box .leaf [.str k]] (.bool (p t)) [.row .box .leaf [.str k]]) :
    ACalls Try.prog Nm.slices_ContainsFunc_string_string [strsA l, .fn g [.ptr 0 0 0]] [.row .box .leaf [.str k]] (.bool (l.any p)) [.row .box .leaf [.str k]] := by
  refine ACalls_of tab (dr_snd tab mixed) Nm.slices_ContainsFunc_string_string_h rfl (by kernel_rfl) (Nat.le_of_ble_eq_true rfl) rfl ?_
  have hi := indexS_walk g k l p hl hg
  rw [ixI_any]
  by_cases h : 0 ≤ ixI p l
  · rw [decide_eq_true h]
    refine NCall.atA (hi) ?_
    refine ND.yes (by omega) ?_
    exact NRet.mk [] rfl ⟨.refl _, rfl⟩
  · rw [decide_eq_false h]
    refine NCall.atA (hi) ?_
    refine ND.no (by omega) ?_
    exact NRet.mk [] rfl ⟨.refl _, rfl⟩
theorem covers_walk (z : List (List UInt8)) (k : List UInt8) (hz : z.length ≤ 2 ^ 40) (hk : k.length ≤ 2 ^ 47) : ACalls Try.prog Nm.zone_Covers [strsA z, .str k] [] (.bool (z.any (begins k))) [] := by
  refine ACalls_of tab (dr_snd tab mixed) Nm.zone_Covers_h rfl (by kernel_rfl) (Nat.le_of_ble_eq_true rfl) rfl ?_
  have hc := containsS_walk Nm.zone_Covers_1 k z (begins k) hz (fun t _ => covF_walk k t hk)
  refine NCall.atA (hc) ?_
  exact NRet.mk [] rfl ⟨.refl _, rfl⟩
theorem dropL {sh : Sh} {es : List AV} {n : Nat} (hn : n = es.length) : DropT [.row .vrow sh es] (.own 0 0 n) (.list sh es) := by
  subst hn
  exact .val (.own trivial rfl (by simp) (by simp) (by rw [List.drop_zero, List.take_of_length_le (by simp)])) rfl (fun _ => by simp) (fun _ => by simp)
theorem cloneD_list (l : List Dot) (hl : l.length ≤ 2 ^ 40) : ACalls Try.prog Nm.slices_Clone_api_Dot_api_Dot [dotsA l] [] (dotsA l) [] :=
  (cloneD_walk (l.map dotA) (by simpa using hl)).drop (dropL rfl)
def effsOnly (l : List Eff) (z : List (List UInt8)) : List Eff := l.filter fun e => z.any (begins e.key)
def smEff (e : Eff) : Prop := e.key.length ≤ 2 ^ 40 ∧ e.field.length ≤ 2 ^ 40 ∧ e.elem.length ≤ 2 ^ 40 ∧ e.drops.length ≤ 2 ^ 40
theorem filter_take {α : Type} (p : α → Bool) (l : List α) {i : Nat} (h : i < l.length) : (l.take (i + 1)).filter p = if p l[i] then (l.take i).filter p ++ [l[i]] else (l.take i).filter p := by
  rw [List.take_succ_eq_append_getElem h, List.filter_append]
  cases hp : p l[i] <;> simp [hp]
theorem effOnly_walk (l : List Eff) (z : List (List UInt8)) (hl : l.length ≤ 2 ^ 38) (hz : z.length ≤ 2 ^ 40) (hx : ∀ e ∈ l, smEff e) : ACalls Try.prog Nm.eff_Only [effsA l, strsA z] [] (effsA (effsOnly l z)) [] := by
  refine ACalls_of tab (dr_snd tab mixed) Nm.eff_Only_h rfl (by kernel_rfl) (Nat.le_of_ble_eq_true rfl) rfl ?_
  let p : Eff → Bool := fun e => z.any (begins e.key)
  have hp0 : effsOnly l z = l.filter p := rfl
  refine NLoop.mk [(5, .agg 7)] [1, 5, 8, 9, 10] (fun m vs H => ∃ i, i ≤ l.length ∧ m = l.length - i ∧ H = [.row .vrow (.agg 7) (((l.take i).filter p).map effA)] ∧ vs = [strsA z, .own 0 0 (((l.take i).filter p).map effA).length, effsA l, i64 l.length, i64 i]) rfl ?_ ?_
  · exact Canon.mk [0] rfl ⟨l.length, 0, Nat.zero_le _, rfl, rfl, by simp [effsA, strsA, i64]⟩
  · rintro m vs H ⟨i, hi, rfl, rfl, rfl⟩
    by_cases hil : i < l.length
    · have hs := filter_take p l hil
      have hfl : ((l.take i).filter p).length ≤ i := Nat.le_trans (List.length_filter_le _ _) (by simp; omega)
      obtain ⟨x1, x2, x3, x4⟩ := hx _ (List.getElem_mem hil)
      have hc := covers_walk z l[i].key hz (by omega)
      have hd := cloneD_list l[i].drops x4
      cases hp : p l[i] with
      | true =>
        rw [show z.any (begins l[i].key) = true from hp] at hc
        rw [hp, if_pos rfl] at hs
        refine ND.yes (by omega) ?_
        refine NP.mk (by omega) ?_
        refine NG.mapN (by omega) ?_
        refine NCall.call (hc) rfl rfl ?_
        refine NCall.call (hd) rfl rfl ?_
        refine NFz.own ?_
        refine NApp.endA rfl (by simp; omega) ?_
        refine NW.i64 (by omega) (by omega) ?_
        exact Canon.mk [2] rfl ⟨l.length - (i + 1), by omega, i + 1, by omega, rfl, by rw [hs, List.map_append]; rfl, by rw [hs, List.map_append]; rfl⟩
      | false =>
        rw [show z.any (begins l[i].key) = false from hp] at hc
        rw [hp, if_neg (by simp)] at hs
        refine ND.yes (by omega) ?_
        refine NP.mk (by omega) ?_
        refine NG.mapN (by omega) ?_
        refine NCall.call (hc) rfl rfl ?_
        refine NW.i64 (by omega) (by omega) ?_
        exact Canon.mk [0] rfl ⟨l.length - (i + 1), by omega, i + 1, by omega, rfl, by rw [hs], by rw [hs]; rfl⟩
    · have : i = l.length := by omega
      subst this
      rw [List.take_length]
      refine ND.no (by omega) ?_
      exact NRet.mk [] rfl (NFrz.mk ((l.filter p).map effA) (by simp) (by rw [List.drop_zero, List.take_length]) ⟨.refl _, rfl⟩)
end Go.Bv
namespace Go.Bv
open Go Go.Proofs
/-- May a transaction's number stand in a vector? -/
def okN (t : Txn) : Prop := 0 ≤ t.node ∧ t.node < 8 ∧ 0 ≤ t.seq ∧ t.seq ≤ 1073741824
instance (t : Txn) : Decidable (okN t) := by unfold okN; infer_instance
end Go.Bv
namespace Go.Bv
set_option linter.unusedSimpArgs false
set_option linter.unusedVariables false
set_option maxHeartbeats 4000000
open Go Go.Proofs
/-- What is left of a list of which some are gone. -/
def rem : List Txn → List Bool → List Txn
  | t :: l, g :: gs => if g then rem l gs else t :: rem l gs
  | _, _ => []
end Go.Bv
namespace Go.Bv
open Go Go.Proofs
def okc (c : UInt8) : Bool := decide (c.toNat = 47) || decide (48 ≤ c.toNat ∧ c.toNat ≤ 57) || decide (97 ≤ c.toNat ∧ c.toNat ≤ 122)
def pref (s : List UInt8) : Bool := decide (s.length ≤ 16) && s.all okc
def keyB (s : List UInt8) : Bool := decide (s ≠ []) && pref s
def dotOk (d : Dot) : Bool := decide (0 ≤ d.node ∧ d.node < 8 ∧ 1 ≤ d.seq ∧ d.seq ≤ 1073741824 ∧ 0 ≤ d.at' ∧ d.at' < 8)
def kindOk (x : Item) : Bool := decide ((x.kind = 1 ∨ x.kind = 2) ∧ x.n = 0 ∨ x.kind = 3 ∧ x.elem = [])
def itemOk (x : Item) : Bool := keyB x.key && (pref x.field && (decide (x.elem.length ≤ 32) && (kindOk x && dotOk x.dot)))
def dlt (a b : Dot) : Bool := decide (a.node < b.node ∨ a.node = b.node ∧ (a.seq < b.seq ∨ a.seq = b.seq ∧ a.at' < b.at'))
/-- Neighbours. -/
def adj {α : Type} (r : α → α → Bool) : List α → Bool
  | [] => true
  | [_] => true
  | x :: y :: t => r x y && adj r (y :: t)
def made (node seq : Int) (e : Eff) : Item := ⟨e.key, e.field, e.kind, e.elem, e.n, ⟨node, seq, e.at'⟩⟩
def dropsOk (l : List Dot) : Bool := decide (l.length ≤ 64) && (l.all dotOk && adj dlt l)
def effOk (node seq : Int) (e : Eff) : Bool := dropsOk e.drops && (if e.kind = 0 then decide (e.drops ≠ [] ∧ e.elem = []) && itemOk (made node seq { e with kind := 1 }) else itemOk (made node seq e))
def ownOk (node seq : Int) (e : Eff) : Bool := e.drops.all fun d => decide (¬ (d.node = node ∧ d.seq = seq ∧ e.at' ≤ d.at'))
def effsOk (node seq : Int) (l : List Eff) : Bool := l.all (fun e => effOk node seq e && ownOk node seq e) && adj (fun a b => decide (a.at' < b.at')) l
theorem adj_iff {α : Type} (r : α → α → Bool) : ∀ (l : List α), adj r l = true ↔ ∀ (i : Nat) (h : i + 1 < l.length), r l[i] l[i + 1] = true
  | [] => by simp [adj]
  | [_] => by simp [adj]
  | x :: y :: t => by
    rw [adj, Bool.and_eq_true, adj_iff r (y :: t)]
    refine ⟨fun ⟨h1, h2⟩ i hi => ?_, fun h => ⟨h 0 (by simp), fun i hi => h (i + 1) (by simpa using hi)⟩⟩
    cases i with
    | zero => exact h1
    | succ i => exact h2 i (by simpa using hi)
theorem adj_pw {α : Type} {r : α → α → Bool} (ht : ∀ a b c, r a b = true → r b c = true → r a c = true) : ∀ (l : List α), adj r l = true ↔ l.Pairwise (fun a b => r a b = true)
  | [] => by simp [adj]
  | [_] => by simp [adj]
  | x :: y :: t => by
    rw [adj, Bool.and_eq_true, adj_pw ht (y :: t), List.pairwise_cons (a := x)]
    refine ⟨fun ⟨h1, h2⟩ => ⟨fun z hz => ?_, h2⟩, fun ⟨h1, h2⟩ => ⟨h1 y (List.mem_cons_self ..), h2⟩⟩
    rcases List.mem_cons.1 hz with rfl | hz
    · exact h1
    · exact ht _ _ _ h1 ((List.pairwise_cons.1 h2).1 z hz)
/-- One step of a look at all. -/
theorem all_step {α : Type} {p : α → Bool} {l : List α} {i : Nat} (h : i < l.length) (ht : ∀ x ∈ l.take i, p x = true) : (p l[i] = false → l.all p = false) ∧ (p l[i] = true → ∀ x ∈ l.take (i + 1), p x = true) := by
  refine ⟨fun hp => ?_, fun hp x hx => ?_⟩
  · rw [List.all_eq_false]; exact ⟨l[i], List.getElem_mem h, by simp [hp]⟩
  · rw [List.take_succ_eq_append_getElem h] at hx
    rcases List.mem_append.1 hx with hx | hx
    · exact ht x hx
    · rw [List.mem_singleton.1 hx]; exact hp
theorem all_end {α : Type} {p : α → Bool} {l : List α} (h : ∀ x ∈ l.take l.length, p x = true) : l.all p = true := by
  rw [List.take_length] at h
  exact List.all_eq_true.2 h
end Go.Bv
namespace Go.Bv
set_option linter.unusedSimpArgs false
set_option linter.unusedVariables false
set_option maxHeartbeats 4000000
open Go Go.Proofs
theorem take_eq_next {α : Type} {a b : List α} {i : Nat} (ht : a.take i = b.take i) (hia : i < a.length) (hib : i < b.length) (h : a[i] = b[i]) : a.take (i + 1) = b.take (i + 1) := by
  rw [List.take_succ_eq_append_getElem hia, List.take_succ_eq_append_getElem hib, ht, h]
theorem take_eq_end {α : Type} {a b : List α} (hl : a.length = b.length) (ht : a.take a.length = b.take a.length) : a = b := by
  rwa [List.take_length, hl, List.take_length] at ht
theorem dot_dec (a b : Dot) : decide (a = b) = (decide (a.node = b.node) && (decide (a.seq = b.seq) && decide (a.at' = b.at'))) := by
  rw [Bool.eq_iff_iff]; simp [Dot.ext_iff]
def shortE (e : Eff) : Bool := decide (e.key.length ≤ 300 ∧ e.field.length ≤ 300 ∧ e.elem.length ≤ 300 ∧ e.drops.length ≤ 70)
def shortEs (l : List Eff) : Bool := decide (l.length ≤ 20) && l.all shortE
theorem short10_walk (l : List Eff) (hl : l.length ≤ 2 ^ 47) (hx : ∀ e ∈ l, okEff e) : ACalls Try.prog Nm.ref10_Short [effsA l] [] (.bool (shortEs l)) [] := by
  refine ACalls_of tab (dr_snd tab mixed) Nm.ref10_Short_h rfl (by kernel_rfl) (Nat.le_of_ble_eq_true rfl) rfl ?_
  unfold shortEs
  by_cases h : l.length ≤ 20
  · rw [decide_eq_true h, Bool.true_and]
    refine ND.no (by (simp only [List.length_map, List.length_append, List.length_replicate, List.length_cons, List.length_nil, List.length_take, List.length_drop]; omega)) ?_
    refine NLoop.mk [] [0, 3] (fun m vs H => ∃ i, i ≤ l.length ∧ m = l.length - i ∧ (∀ x ∈ l.take i, shortE x = true) ∧ H = [] ∧ vs = [effsA l, i64 i]) rfl ?_ ?_
    · exact Canon.mk [] rfl ⟨l.length, 0, Nat.zero_le _, rfl, by simp, rfl, rfl⟩
    · rintro m vs H ⟨i, hi, rfl, ht, rfl, rfl⟩
      by_cases hil : i < l.length
      · obtain ⟨f1, f2⟩ := all_step hil ht
        obtain ⟨_, x1, x2, _, x3, _, x4, _⟩ := hx _ (List.getElem_mem hil)
        have x1 := reach_lt x1
        have x2 := reach_lt x2
        have x3 := reach_lt x3
        have x4 := reach_lt x4
        cases hp : shortE l[i] with
        | true =>
          have hp' := hp
          unfold shortE at hp'
          simp only [decide_eq_true_eq] at hp'
          refine ND.yes (by (simp only [List.length_map, List.length_append, List.length_replicate, List.length_cons, List.length_nil, List.length_take, List.length_drop]; omega)) ?_
          refine NP.mk (by omega) ?_
          refine NG.mapN (by omega) ?_
          refine ND.no (by omega) ?_
          refine NP.mk (by omega) ?_
          refine NG.mapN (by omega) ?_
          refine ND.no (by omega) ?_
          refine NP.mk (by omega) ?_
          refine NG.mapN (by omega) ?_
          refine ND.no (by omega) ?_
          refine NP.mk (by omega) ?_
          refine NG.mapN (by omega) ?_
          refine ND.no (by (simp only [List.length_map, List.length_append, List.length_replicate, List.length_cons, List.length_nil, List.length_take, List.length_drop]; omega)) ?_
          refine NW.i64 (by omega) (by omega) ?_
          exact Canon.mk [] rfl ⟨l.length - (i + 1), by omega, i + 1, by omega, rfl, f2 hp, rfl, rfl⟩
        | false =>
          rw [f1 hp]
          have hp' := hp
          unfold shortE at hp'
          simp only [decide_eq_false_iff_not] at hp'
          refine ND.yes (by (simp only [List.length_map, List.length_append, List.length_replicate, List.length_cons, List.length_nil, List.length_take, List.length_drop]; omega)) ?_
          refine NP.mk (by omega) ?_
          refine NG.mapN (by omega) ?_
          refine NB.dec (fun hk2 => ?_) (fun hk2 => ?_)
          · exact NRet.mk [] rfl ⟨.refl _, rfl⟩
          refine NP.mk (by omega) ?_
          refine NG.mapN (by omega) ?_
          refine NB.dec (fun hk3 => ?_) (fun hk3 => ?_)
          · exact NRet.mk [] rfl ⟨.refl _, rfl⟩
          refine NP.mk (by omega) ?_
          refine NG.mapN (by omega) ?_
          refine NB.dec (fun hk4 => ?_) (fun hk4 => ?_)
          · exact NRet.mk [] rfl ⟨.refl _, rfl⟩
          refine NP.mk (by omega) ?_
          refine NG.mapN (by omega) ?_
          refine ND.yes (by (simp only [List.length_map, List.length_append, List.length_replicate, List.length_cons, List.length_nil, List.length_take, List.length_drop]; omega)) ?_
          exact NRet.mk [] rfl ⟨.refl _, rfl⟩
      · have : i = l.length := by omega
        subst this
        rw [all_end ht]
        refine ND.no (by (simp only [List.length_map, List.length_append, List.length_replicate, List.length_cons, List.length_nil, List.length_take, List.length_drop]; omega)) ?_
        exact NRet.mk [] rfl ⟨.refl _, rfl⟩
  · rw [decide_eq_false h, Bool.false_and]
    refine ND.yes (by (simp only [List.length_map, List.length_append, List.length_replicate, List.length_cons, List.length_nil, List.length_take, List.length_drop]; omega)) ?_
    exact NRet.mk [] rfl ⟨.refl _, rfl⟩
end Go.Bv
namespace Go.Bv
set_option linter.unusedSimpArgs false
set_option linter.unusedVariables false
set_option maxHeartbeats 4000000
open Go Go.Proofs
theorem prefix_walk (s : List UInt8) (hs : s.length ≤ 2 ^ 47) : ACalls Try.prog Nm.zone_prefix [.str s] [] (.bool (pref s)) [] := by
  refine ACalls_of tab (dr_snd tab mixed) Nm.zone_prefix_h rfl (by kernel_rfl) (Nat.le_of_ble_eq_true rfl) rfl ?_
  rw [pref]
  by_cases h : s.length ≤ 16
  · rw [decide_eq_true h, Bool.true_and]
    refine ND.no (by omega) ?_
    refine NLoop.mk [] [0, 8, 9, 10] (fun m vs H => ∃ i, i ≤ s.length ∧ m = s.length - i ∧ (∀ x ∈ s.take i, okc x = true) ∧ H = [] ∧ vs = [.str s, .str s, i64 s.length, i64 i]) rfl ?_ ?_
    · exact Canon.mk [] rfl ⟨s.length, 0, Nat.zero_le _, rfl, by simp, rfl, rfl⟩
    · rintro m vs H ⟨i, hi, rfl, ht, rfl, rfl⟩
      by_cases hil : i < s.length
      · obtain ⟨f1, f2⟩ := all_step hil ht
        have fin : okc s[i] = true → ∃ m', m' < s.length - i ∧ ∃ i', i' ≤ s.length ∧ m' = s.length - i' ∧ (∀ x ∈ s.take i', okc x = true) ∧ ([] : List Blk) = [] ∧ [AV.str s, .str s, i64 s.length, i64 ((i + 1 : Nat) : Int)] = [.str s, .str s, i64 s.length, i64 i'] := fun h =>
          ⟨s.length - (i + 1), by omega, i + 1, by omega, rfl, f2 h, rfl, rfl⟩
        refine ND.yes (by omega) ?_
        refine NP.mk (by omega) ?_
        refine NB.dec (fun hk2 => ?_) (fun hk2 => ?_)
        · refine NB.dec (fun hk3 => ?_) (fun hk3 => ?_)
          · refine NB.dec (fun hk4 => ?_) (fun hk4 => ?_)
            · refine NW.i64 (by omega) (by omega) ?_
              exact (Canon.mk [] rfl (fin (by grind [okc])))
            refine NRet.boolE (b := false) ?_ (NRet.mk [] rfl ⟨.refl _, rfl⟩)
            grind [okc, pref]
          refine NB.dec (fun hk5 => ?_) (fun hk5 => ?_)
          · refine ND.no (by omega) ?_
            refine NRet.boolE (b := false) ?_ (NRet.mk [] rfl ⟨.refl _, rfl⟩)
            grind [okc, pref]
          refine NW.i64 (by omega) (by omega) ?_
          exact (Canon.mk [] rfl (fin (by grind [okc])))
        refine NB.dec (fun hk7 => ?_) (fun hk7 => ?_)
        · refine ND.no (by omega) ?_
          refine ND.yes (by omega) ?_
          refine ND.no (by omega) ?_
          refine NRet.boolE (b := false) ?_ (NRet.mk [] rfl ⟨.refl _, rfl⟩)
          grind [okc, pref]
        refine NW.i64 (by omega) (by omega) ?_
        exact (Canon.mk [] rfl (fin (by grind [okc])))
      · have : i = s.length := by omega
        subst this
        rw [all_end ht]
        refine ND.no (by omega) ?_
        exact NRet.mk [] rfl ⟨.refl _, rfl⟩
  · rw [decide_eq_false h, Bool.false_and]
    refine ND.yes (by omega) ?_
    exact NRet.mk [] rfl ⟨.refl _, rfl⟩
theorem key_walk (s : List UInt8) (hs : s.length ≤ 2 ^ 47) : ACalls Try.prog Nm.zone_Key [.str s] [] (.bool (keyB s)) [] := by
  refine ACalls_of tab (dr_snd tab mixed) Nm.zone_Key_h rfl (by kernel_rfl) (Nat.le_of_ble_eq_true rfl) rfl ?_
  rw [keyB]
  refine NB.dec (fun hk1 => ?_) (fun hk1 => ?_)
  · refine NRet.boolE (b := false) ?_ (NRet.mk [] rfl ⟨.refl _, rfl⟩)
    grind
  refine NCall.call (prefix_walk s hs) rfl rfl ?_
  refine NRet.boolE ?_ (NRet.mk [] rfl ⟨.refl _, rfl⟩)
  grind
def smItem (x : Item) : Prop := x.key.length ≤ 2 ^ 40 ∧ x.field.length ≤ 2 ^ 40 ∧ x.elem.length ≤ 2 ^ 40
theorem itemFormed_walk (x : Item) (hx : smItem x) : ACalls Try.prog Nm.item_Formed [itemA x] [] (.bool (itemOk x)) [] := by
  refine ACalls_of tab (dr_snd tab mixed) Nm.item_Formed_h rfl (by kernel_rfl) (Nat.le_of_ble_eq_true rfl) rfl ?_
  obtain ⟨h1, h2, h3⟩ := hx
  have k1 := key_walk x.key (by omega)
  have k2 := key_walk x.field (by omega)
  refine NCall.call (k1) rfl rfl ?_
  refine NB.mk (fun hk1 => ?_) (fun hk1 => ?_)
  · refine NB.dec (fun hk2 => ?_) (fun hk2 => ?_)
    · refine NB.dec (fun hk3 => ?_) (fun hk3 => ?_)
      · refine NRet.boolE (b := false) ?_ (NRet.mk [] rfl ⟨.refl _, rfl⟩)
        grind [itemOk, kindOk, dotOk, keyB, pref]
      refine NB.dec (fun hk4 => ?_) (fun hk4 => ?_)
      · refine NB.dec (fun hk5 => ?_) (fun hk5 => ?_)
        · refine NB.dec (fun hk6 => ?_) (fun hk6 => ?_)
          · refine NB.dec (fun hk7 => ?_) (fun hk7 => ?_)
            · refine NB.dec (fun hk8 => ?_) (fun hk8 => ?_)
              · refine NB.dec (fun hk9 => ?_) (fun hk9 => ?_)
                · refine NB.dec (fun hk10 => ?_) (fun hk10 => ?_)
                  · refine NB.dec (fun hk11 => ?_) (fun hk11 => ?_)
                    · refine NRet.boolE (b := true) ?_ (NRet.mk [] rfl ⟨.refl _, rfl⟩)
                      grind [itemOk, kindOk, dotOk, keyB, pref]
                    refine NRet.boolE (b := false) ?_ (NRet.mk [] rfl ⟨.refl _, rfl⟩)
                    grind [itemOk, kindOk, dotOk, keyB, pref]
                  refine NRet.boolE (b := false) ?_ (NRet.mk [] rfl ⟨.refl _, rfl⟩)
                  grind [itemOk, kindOk, dotOk, keyB, pref]
                refine NRet.boolE (b := false) ?_ (NRet.mk [] rfl ⟨.refl _, rfl⟩)
                grind [itemOk, kindOk, dotOk, keyB, pref]
              refine NRet.boolE (b := false) ?_ (NRet.mk [] rfl ⟨.refl _, rfl⟩)
              grind [itemOk, kindOk, dotOk, keyB, pref]
            refine NRet.boolE (b := false) ?_ (NRet.mk [] rfl ⟨.refl _, rfl⟩)
            grind [itemOk, kindOk, dotOk, keyB, pref]
          refine NRet.boolE (b := false) ?_ (NRet.mk [] rfl ⟨.refl _, rfl⟩)
          grind [itemOk, kindOk, dotOk, keyB, pref]
        refine NRet.boolE (b := false) ?_ (NRet.mk [] rfl ⟨.refl _, rfl⟩)
        grind [itemOk, kindOk, dotOk, keyB, pref]
      refine NB.dec (fun hk12 => ?_) (fun hk12 => ?_)
      · refine NB.dec (fun hk13 => ?_) (fun hk13 => ?_)
        · refine NB.dec (fun hk14 => ?_) (fun hk14 => ?_)
          · refine NB.dec (fun hk15 => ?_) (fun hk15 => ?_)
            · refine NB.dec (fun hk16 => ?_) (fun hk16 => ?_)
              · refine NB.dec (fun hk17 => ?_) (fun hk17 => ?_)
                · refine NB.dec (fun hk18 => ?_) (fun hk18 => ?_)
                  · refine NB.dec (fun hk19 => ?_) (fun hk19 => ?_)
                    · refine NRet.boolE (b := true) ?_ (NRet.mk [] rfl ⟨.refl _, rfl⟩)
                      grind [itemOk, kindOk, dotOk, keyB, pref]
                    refine NRet.boolE (b := false) ?_ (NRet.mk [] rfl ⟨.refl _, rfl⟩)
                    grind [itemOk, kindOk, dotOk, keyB, pref]
                  refine NRet.boolE (b := false) ?_ (NRet.mk [] rfl ⟨.refl _, rfl⟩)
                  grind [itemOk, kindOk, dotOk, keyB, pref]
                refine NRet.boolE (b := false) ?_ (NRet.mk [] rfl ⟨.refl _, rfl⟩)
                grind [itemOk, kindOk, dotOk, keyB, pref]
              refine NRet.boolE (b := false) ?_ (NRet.mk [] rfl ⟨.refl _, rfl⟩)
              grind [itemOk, kindOk, dotOk, keyB, pref]
            refine NRet.boolE (b := false) ?_ (NRet.mk [] rfl ⟨.refl _, rfl⟩)
            grind [itemOk, kindOk, dotOk, keyB, pref]
          refine NRet.boolE (b := false) ?_ (NRet.mk [] rfl ⟨.refl _, rfl⟩)
          grind [itemOk, kindOk, dotOk, keyB, pref]
        refine NRet.boolE (b := false) ?_ (NRet.mk [] rfl ⟨.refl _, rfl⟩)
        grind [itemOk, kindOk, dotOk, keyB, pref]
      refine NB.dec (fun hk20 => ?_) (fun hk20 => ?_)
      · refine NB.dec (fun hk21 => ?_) (fun hk21 => ?_)
        · refine NB.dec (fun hk22 => ?_) (fun hk22 => ?_)
          · refine NB.dec (fun hk23 => ?_) (fun hk23 => ?_)
            · refine NB.dec (fun hk24 => ?_) (fun hk24 => ?_)
              · refine NB.dec (fun hk25 => ?_) (fun hk25 => ?_)
                · refine NB.dec (fun hk26 => ?_) (fun hk26 => ?_)
                  · refine NB.dec (fun hk27 => ?_) (fun hk27 => ?_)
                    · refine NRet.boolE (b := true) ?_ (NRet.mk [] rfl ⟨.refl _, rfl⟩)
                      grind [itemOk, kindOk, dotOk, keyB, pref]
                    refine NRet.boolE (b := false) ?_ (NRet.mk [] rfl ⟨.refl _, rfl⟩)
                    grind [itemOk, kindOk, dotOk, keyB, pref]
                  refine NRet.boolE (b := false) ?_ (NRet.mk [] rfl ⟨.refl _, rfl⟩)
                  grind [itemOk, kindOk, dotOk, keyB, pref]
                refine NRet.boolE (b := false) ?_ (NRet.mk [] rfl ⟨.refl _, rfl⟩)
                grind [itemOk, kindOk, dotOk, keyB, pref]
              refine NRet.boolE (b := false) ?_ (NRet.mk [] rfl ⟨.refl _, rfl⟩)
              grind [itemOk, kindOk, dotOk, keyB, pref]
            refine NRet.boolE (b := false) ?_ (NRet.mk [] rfl ⟨.refl _, rfl⟩)
            grind [itemOk, kindOk, dotOk, keyB, pref]
          refine NRet.boolE (b := false) ?_ (NRet.mk [] rfl ⟨.refl _, rfl⟩)
          grind [itemOk, kindOk, dotOk, keyB, pref]
        refine NRet.boolE (b := false) ?_ (NRet.mk [] rfl ⟨.refl _, rfl⟩)
        grind [itemOk, kindOk, dotOk, keyB, pref]
      refine NRet.boolE (b := false) ?_ (NRet.mk [] rfl ⟨.refl _, rfl⟩)
      grind [itemOk, kindOk, dotOk, keyB, pref]
    refine NCall.call (k2) rfl rfl ?_
    refine NB.mk (fun hk28 => ?_) (fun hk28 => ?_)
    · refine NB.dec (fun hk29 => ?_) (fun hk29 => ?_)
      · refine NRet.boolE (b := false) ?_ (NRet.mk [] rfl ⟨.refl _, rfl⟩)
        grind [itemOk, kindOk, dotOk, keyB, pref]
      refine NB.dec (fun hk30 => ?_) (fun hk30 => ?_)
      · refine NB.dec (fun hk31 => ?_) (fun hk31 => ?_)
        · refine NB.dec (fun hk32 => ?_) (fun hk32 => ?_)
          · refine NB.dec (fun hk33 => ?_) (fun hk33 => ?_)
            · refine NB.dec (fun hk34 => ?_) (fun hk34 => ?_)
              · refine NB.dec (fun hk35 => ?_) (fun hk35 => ?_)
                · refine NB.dec (fun hk36 => ?_) (fun hk36 => ?_)
                  · refine NB.dec (fun hk37 => ?_) (fun hk37 => ?_)
                    · refine NRet.boolE (b := true) ?_ (NRet.mk [] rfl ⟨.refl _, rfl⟩)
                      grind [itemOk, kindOk, dotOk, keyB, pref]
                    refine NRet.boolE (b := false) ?_ (NRet.mk [] rfl ⟨.refl _, rfl⟩)
                    grind [itemOk, kindOk, dotOk, keyB, pref]
                  refine NRet.boolE (b := false) ?_ (NRet.mk [] rfl ⟨.refl _, rfl⟩)
                  grind [itemOk, kindOk, dotOk, keyB, pref]
                refine NRet.boolE (b := false) ?_ (NRet.mk [] rfl ⟨.refl _, rfl⟩)
                grind [itemOk, kindOk, dotOk, keyB, pref]
              refine NRet.boolE (b := false) ?_ (NRet.mk [] rfl ⟨.refl _, rfl⟩)
              grind [itemOk, kindOk, dotOk, keyB, pref]
            refine NRet.boolE (b := false) ?_ (NRet.mk [] rfl ⟨.refl _, rfl⟩)
            grind [itemOk, kindOk, dotOk, keyB, pref]
          refine NRet.boolE (b := false) ?_ (NRet.mk [] rfl ⟨.refl _, rfl⟩)
          grind [itemOk, kindOk, dotOk, keyB, pref]
        refine NRet.boolE (b := false) ?_ (NRet.mk [] rfl ⟨.refl _, rfl⟩)
        grind [itemOk, kindOk, dotOk, keyB, pref]
      refine NB.dec (fun hk38 => ?_) (fun hk38 => ?_)
      · refine NB.dec (fun hk39 => ?_) (fun hk39 => ?_)
        · refine NB.dec (fun hk40 => ?_) (fun hk40 => ?_)
          · refine NB.dec (fun hk41 => ?_) (fun hk41 => ?_)
            · refine NB.dec (fun hk42 => ?_) (fun hk42 => ?_)
              · refine NB.dec (fun hk43 => ?_) (fun hk43 => ?_)
                · refine NB.dec (fun hk44 => ?_) (fun hk44 => ?_)
                  · refine NB.dec (fun hk45 => ?_) (fun hk45 => ?_)
                    · refine NRet.boolE (b := true) ?_ (NRet.mk [] rfl ⟨.refl _, rfl⟩)
                      grind [itemOk, kindOk, dotOk, keyB, pref]
                    refine NRet.boolE (b := false) ?_ (NRet.mk [] rfl ⟨.refl _, rfl⟩)
                    grind [itemOk, kindOk, dotOk, keyB, pref]
                  refine NRet.boolE (b := false) ?_ (NRet.mk [] rfl ⟨.refl _, rfl⟩)
                  grind [itemOk, kindOk, dotOk, keyB, pref]
                refine NRet.boolE (b := false) ?_ (NRet.mk [] rfl ⟨.refl _, rfl⟩)
                grind [itemOk, kindOk, dotOk, keyB, pref]
              refine NRet.boolE (b := false) ?_ (NRet.mk [] rfl ⟨.refl _, rfl⟩)
              grind [itemOk, kindOk, dotOk, keyB, pref]
            refine NRet.boolE (b := false) ?_ (NRet.mk [] rfl ⟨.refl _, rfl⟩)
            grind [itemOk, kindOk, dotOk, keyB, pref]
          refine NRet.boolE (b := false) ?_ (NRet.mk [] rfl ⟨.refl _, rfl⟩)
          grind [itemOk, kindOk, dotOk, keyB, pref]
        refine NRet.boolE (b := false) ?_ (NRet.mk [] rfl ⟨.refl _, rfl⟩)
        grind [itemOk, kindOk, dotOk, keyB, pref]
      refine NB.dec (fun hk46 => ?_) (fun hk46 => ?_)
      · refine NB.dec (fun hk47 => ?_) (fun hk47 => ?_)
        · refine NB.dec (fun hk48 => ?_) (fun hk48 => ?_)
          · refine NB.dec (fun hk49 => ?_) (fun hk49 => ?_)
            · refine NB.dec (fun hk50 => ?_) (fun hk50 => ?_)
              · refine NB.dec (fun hk51 => ?_) (fun hk51 => ?_)
                · refine NB.dec (fun hk52 => ?_) (fun hk52 => ?_)
                  · refine NB.dec (fun hk53 => ?_) (fun hk53 => ?_)
                    · refine NRet.boolE (b := true) ?_ (NRet.mk [] rfl ⟨.refl _, rfl⟩)
                      grind [itemOk, kindOk, dotOk, keyB, pref]
                    refine NRet.boolE (b := false) ?_ (NRet.mk [] rfl ⟨.refl _, rfl⟩)
                    grind [itemOk, kindOk, dotOk, keyB, pref]
                  refine NRet.boolE (b := false) ?_ (NRet.mk [] rfl ⟨.refl _, rfl⟩)
                  grind [itemOk, kindOk, dotOk, keyB, pref]
                refine NRet.boolE (b := false) ?_ (NRet.mk [] rfl ⟨.refl _, rfl⟩)
                grind [itemOk, kindOk, dotOk, keyB, pref]
              refine NRet.boolE (b := false) ?_ (NRet.mk [] rfl ⟨.refl _, rfl⟩)
              grind [itemOk, kindOk, dotOk, keyB, pref]
            refine NRet.boolE (b := false) ?_ (NRet.mk [] rfl ⟨.refl _, rfl⟩)
            grind [itemOk, kindOk, dotOk, keyB, pref]
          refine NRet.boolE (b := false) ?_ (NRet.mk [] rfl ⟨.refl _, rfl⟩)
          grind [itemOk, kindOk, dotOk, keyB, pref]
        refine NRet.boolE (b := false) ?_ (NRet.mk [] rfl ⟨.refl _, rfl⟩)
        grind [itemOk, kindOk, dotOk, keyB, pref]
      refine NRet.boolE (b := false) ?_ (NRet.mk [] rfl ⟨.refl _, rfl⟩)
      grind [itemOk, kindOk, dotOk, keyB, pref]
    refine NRet.boolE (b := false) ?_ (NRet.mk [] rfl ⟨.refl _, rfl⟩)
    grind [itemOk, kindOk, dotOk, keyB, pref]
  refine NRet.boolE (b := false) ?_ (NRet.mk [] rfl ⟨.refl _, rfl⟩)
  grind [itemOk, kindOk, dotOk, keyB, pref]
theorem dot_walk' (d : Dot) : ACalls Try.prog Nm.eff_dot [dotA d] [] (.bool (dotOk d)) [] := by
  refine ACalls_of tab (dr_snd tab mixed) Nm.eff_dot_h rfl (by kernel_rfl) (Nat.le_of_ble_eq_true rfl) rfl ?_
  rw [dotOk]
  refine NB.dec (fun hk1 => ?_) (fun hk1 => ?_)
  · refine NB.dec (fun hk2 => ?_) (fun hk2 => ?_)
    · refine NB.dec (fun hk3 => ?_) (fun hk3 => ?_)
      · refine NB.dec (fun hk4 => ?_) (fun hk4 => ?_)
        · refine NB.dec (fun hk5 => ?_) (fun hk5 => ?_)
          · refine NB.dec (fun hk6 => ?_) (fun hk6 => ?_)
            · refine NRet.boolE (b := true) ?_ (NRet.mk [] rfl ⟨.refl _, rfl⟩)
              (simp only [decide_eq_true_eq, decide_eq_false_iff_not, eq_comm (a := true), eq_comm (a := false)]; omega)
            refine NRet.boolE (b := false) ?_ (NRet.mk [] rfl ⟨.refl _, rfl⟩)
            (simp only [decide_eq_true_eq, decide_eq_false_iff_not, eq_comm (a := true), eq_comm (a := false)]; omega)
          refine NRet.boolE (b := false) ?_ (NRet.mk [] rfl ⟨.refl _, rfl⟩)
          (simp only [decide_eq_true_eq, decide_eq_false_iff_not, eq_comm (a := true), eq_comm (a := false)]; omega)
        refine NRet.boolE (b := false) ?_ (NRet.mk [] rfl ⟨.refl _, rfl⟩)
        (simp only [decide_eq_true_eq, decide_eq_false_iff_not, eq_comm (a := true), eq_comm (a := false)]; omega)
      refine NRet.boolE (b := false) ?_ (NRet.mk [] rfl ⟨.refl _, rfl⟩)
      (simp only [decide_eq_true_eq, decide_eq_false_iff_not, eq_comm (a := true), eq_comm (a := false)]; omega)
    refine NRet.boolE (b := false) ?_ (NRet.mk [] rfl ⟨.refl _, rfl⟩)
    (simp only [decide_eq_true_eq, decide_eq_false_iff_not, eq_comm (a := true), eq_comm (a := false)]; omega)
  refine NRet.boolE (b := false) ?_ (NRet.mk [] rfl ⟨.refl _, rfl⟩)
  (simp only [decide_eq_true_eq, decide_eq_false_iff_not, eq_comm (a := true), eq_comm (a := false)]; omega)
theorem isNaN_walk (a : Int) : ACalls Try.prog Nm.cmp_isNaN_int [i64 a] [] (.bool false) [] := by
  refine ACalls_of tab (dr_snd tab mixed) Nm.cmp_isNaN_int_h rfl (by kernel_rfl) (Nat.le_of_ble_eq_true rfl) rfl ?_
  refine ND.yes (by omega) ?_
  exact NRet.mk [] rfl ⟨.refl _, rfl⟩
def cmpI (a b : Int) : Int := if a < b then -1 else if b < a then 1 else 0
theorem compare_walk (a b : Int) : ACalls Try.prog Nm.cmp_Compare_int [i64 a, i64 b] [] (i64 (cmpI a b)) [] := by
  refine ACalls_of tab (dr_snd tab mixed) Nm.cmp_Compare_int_h rfl (by kernel_rfl) (Nat.le_of_ble_eq_true rfl) rfl ?_
  have h1 := isNaN_walk a
  have h2 := isNaN_walk b
  rw [cmpI]
  refine NCall.call (h1) rfl rfl ?_
  refine NCall.call (h2) rfl rfl ?_
  refine NB.dec (fun hk1 => ?_) (fun hk1 => ?_)
  · refine NRet.intE ?_ (NRet.mk [] rfl ⟨.refl _, rfl⟩)
    omega
  refine NB.dec (fun hk2 => ?_) (fun hk2 => ?_)
  · refine NRet.intE ?_ (NRet.mk [] rfl ⟨.refl _, rfl⟩)
    omega
  refine NRet.intE ?_ (NRet.mk [] rfl ⟨.refl _, rfl⟩)
  omega
theorem made_walk (node seq : Int) (e : Eff) : ACalls Try.prog Nm.eff_made [i64 node, i64 seq, effA e] [] (itemA (made node seq e)) [] := by
  refine ACalls_of tab (dr_snd tab mixed) Nm.eff_made_h rfl (by kernel_rfl) (Nat.le_of_ble_eq_true rfl) rfl ?_
  exact NRet.mk [] rfl ⟨.refl _, rfl⟩
def orI : List Int → Int
  | [] => 0
  | x :: r => if x = 0 then orI r else x
theorem orI_cons (x : Int) (r : List Int) : orI (x :: r) = if x = 0 then orI r else x := rfl
theorem or_walk (l : List Int) (hl : l.length ≤ 2 ^ 40) : ACalls Try.prog Nm.cmp_Or_int [ints l] [] (i64 (orI l)) [] := by
  refine ACalls_of tab (dr_snd tab mixed) Nm.cmp_Or_int_h rfl (by kernel_rfl) (Nat.le_of_ble_eq_true rfl) rfl ?_
  refine NLoop.mk [] [3, 6, 7, 8] (fun m vs H => ∃ i, i ≤ l.length ∧ m = l.length - i ∧ orI l = orI (l.drop i) ∧ H = [] ∧ vs = [i64 0, ints l, i64 l.length, i64 i]) rfl ?_ ?_
  · exact Canon.mk [] rfl ⟨l.length, 0, Nat.zero_le _, rfl, rfl, rfl, by simp [ints, i64]⟩
  · rintro m vs H ⟨i, hi, rfl, ht, rfl, rfl⟩
    rw [ht]
    by_cases hil : i < l.length
    · rw [List.drop_eq_getElem_cons hil]
      rw [orI_cons]
      by_cases h0 : l[i] = 0
      · rw [if_pos h0]
        refine ND.yes (by omega) ?_
        refine NP.mk (by omega) ?_
        refine NG.mapN (by omega) ?_
        refine ND.yes (by omega) ?_
        refine NW.i64 (by omega) (by omega) ?_
        exact Canon.mk [] rfl ⟨l.length - (i + 1), by omega, i + 1, by omega, rfl, rfl, rfl, rfl⟩
      · rw [if_neg h0]
        refine ND.yes (by omega) ?_
        refine NP.mk (by omega) ?_
        refine NG.mapN (by omega) ?_
        refine ND.no (by omega) ?_
        exact NRet.mk [] rfl ⟨.refl _, rfl⟩
    · rw [List.drop_eq_nil_of_le (by omega)]
      refine ND.no (by omega) ?_
      exact NRet.mk [] rfl ⟨.refl _, rfl⟩
theorem order_walk (a b : Dot) : ACalls Try.prog Nm.eff_order [dotA a, dotA b] [] (i64 (orI [cmpI a.node b.node, cmpI a.seq b.seq, cmpI a.at' b.at'])) [] := by
  refine ACalls_of tab (dr_snd tab mixed) Nm.eff_order_h rfl (by kernel_rfl) (Nat.le_of_ble_eq_true rfl) rfl ?_
  refine NP.mk (by kernel_rfl) ?_
  apply NDr.rd [0]
  · intro fH TH
    exact ⟨rfl, rfl⟩
  apply NDr.rd [0]
  · intro fH TH
    exact ⟨rfl, rfl⟩
  apply NDr.rd [1]
  · intro fH TH
    exact ⟨rfl, rfl⟩
  apply NDr.rd [1]
  · intro fH TH
    exact ⟨rfl, rfl⟩
  apply NDr.pure
  · refine NCall.call (compare_walk a.node b.node) rfl rfl ?_
    exact ⟨rfl, rfl⟩
  apply NDr.rd [0]
  · intro fH TH
    exact ⟨rfl, rfl⟩
  apply NDr.rd [0]
  · intro fH TH
    exact ⟨rfl, rfl⟩
  apply NDr.rd [1]
  · intro fH TH
    exact ⟨rfl, rfl⟩
  apply NDr.rd [1]
  · intro fH TH
    exact ⟨rfl, rfl⟩
  apply NDr.pure
  · refine NCall.call (compare_walk a.seq b.seq) rfl rfl ?_
    exact ⟨rfl, rfl⟩
  apply NDr.rd [0]
  · intro fH TH
    exact ⟨rfl, rfl⟩
  apply NDr.rd [0]
  · intro fH TH
    exact ⟨rfl, rfl⟩
  apply NDr.rd [1]
  · intro fH TH
    exact ⟨rfl, rfl⟩
  apply NDr.rd [1]
  · intro fH TH
    exact ⟨rfl, rfl⟩
  apply NDr.pure
  · refine NCall.call (compare_walk a.at' b.at') rfl rfl ?_
    exact ⟨rfl, rfl⟩
  apply NDr.pure
  · exact ⟨rfl, rfl⟩
  apply NDr.pure
  · refine NCall.call (or_walk [cmpI a.node b.node, cmpI a.seq b.seq, cmpI a.at' b.at'] (by simp)) rfl rfl ?_
    exact ⟨rfl, rfl⟩
  apply NDr.pure
  · exact ⟨rfl, rfl⟩
  refine NP.mk (by kernel_rfl) ?_
  exact NRet.mk [] rfl ⟨.refl _, rfl⟩
theorem order_dlt (a b : Dot) : orI [cmpI a.node b.node, cmpI a.seq b.seq, cmpI a.at' b.at'] < 0 ↔ dlt a b = true := by
  unfold dlt
  rw [decide_eq_true_eq]
  simp only [orI, cmpI]
  grind
/-- One step of a look at all and at all neighbours. -/
def Seen {α : Type} (p : α → Bool) (r : α → α → Bool) (l : List α) (i : Nat) : Prop := (∀ x ∈ l.take i, p x = true) ∧ ∀ (j : Nat) (h : j + 1 < l.length), j + 1 < i → r l[j] l[j + 1] = true
theorem seen0 {α : Type} (p : α → Bool) (r : α → α → Bool) (l : List α) : Seen p r l 0 := ⟨by simp, fun j _ h => by omega⟩
theorem seen_p {α : Type} {p : α → Bool} {r : α → α → Bool} {l : List α} {i : Nat} (h : i < l.length) (hp : p l[i] = false) : (l.all p && adj r l) = false := by
  rw [(List.all_eq_false).2 ⟨l[i], List.getElem_mem h, by simp [hp]⟩, Bool.false_and]
theorem seen_r {α : Type} {p : α → Bool} {r : α → α → Bool} {l : List α} {k : Nat} (h : k + 1 < l.length) (hr : r l[k] l[k + 1] = false) : (l.all p && adj r l) = false := by
  have : adj r l = false := by
    cases hq : adj r l with
    | false => rfl
    | true => rw [(adj_iff r l).1 hq k h] at hr; cases hr
  rw [this, Bool.and_false]
theorem seen_zero {α : Type} {p : α → Bool} {r : α → α → Bool} {l : List α} (h : 0 < l.length) (hp : p l[0] = true) : Seen p r l 1 := by
  refine ⟨fun x hx => ?_, fun j _ h => by omega⟩
  rw [List.take_succ_eq_append_getElem h] at hx
  simp at hx
  rw [hx]; exact hp
theorem seen_succ {α : Type} {p : α → Bool} {r : α → α → Bool} {l : List α} {k : Nat} (h : k + 1 < l.length) (hs : Seen p r l (k + 1)) (hp : p l[k + 1] = true) (hr : r l[k] l[k + 1] = true) : Seen p r l (k + 1 + 1) := by
  obtain ⟨h1, h2⟩ := hs
  refine ⟨(all_step h h1).2 hp, fun j hj hji => ?_⟩
  rcases Nat.lt_or_ge j k with h' | h'
  · exact h2 j hj (by omega)
  · have : j = k := by omega
    subst this; exact hr
theorem seen_end {α : Type} {p : α → Bool} {r : α → α → Bool} {l : List α} (hs : Seen p r l l.length) : (l.all p && adj r l) = true := by
  rw [all_end hs.1, Bool.true_and, adj_iff]
  exact fun i h => hs.2 i h h
theorem smMade {node seq : Int} {e : Eff} (h : smEff e) : smItem (made node seq e) := ⟨h.1, h.2.1, h.2.2.1⟩
theorem effFormed_walk (node seq : Int) (e : Eff) (he : smEff e) : ACalls Try.prog Nm.eff_Formed [i64 node, i64 seq, effA e] [] (.bool (effOk node seq e)) [] := by
  refine ACalls_of tab (dr_snd tab mixed) Nm.eff_Formed_h rfl (by kernel_rfl) (Nat.le_of_ble_eq_true rfl) rfl ?_
  rw [effOk, dropsOk]
  by_cases h : e.drops.length ≤ 64
  · rw [decide_eq_true h, Bool.true_and]
    refine ND.no (by (simp only [List.length_map, List.length_append, List.length_replicate, List.length_cons, List.length_nil, List.length_take, List.length_drop]; omega)) ?_
    refine NLoop.mk [] [0, 1, 2, 5, 15, 16, 17] (fun m vs H => ∃ i, i ≤ e.drops.length ∧ m = e.drops.length - i ∧ Seen dotOk dlt e.drops i ∧ H = [.row .box (.agg 7) [effA e]] ∧ vs = [i64 node, i64 seq, effA e, .ptr 0 0 0, dotsA e.drops, i64 e.drops.length, i64 i]) rfl ?_ ?_
    · exact Canon.mk [0] rfl ⟨e.drops.length, 0, Nat.zero_le _, rfl, seen0 _ _ _, rfl, by simp [dotsA, i64]; rfl⟩
    · rintro m vs H ⟨i, hi, rfl, hs, rfl, rfl⟩
      by_cases hil : i < e.drops.length
      · have h1 := dot_walk' e.drops[i]
        cases hp : dotOk e.drops[i] with
        | false =>
          rw [hp] at h1
          rw [seen_p hil hp, Bool.false_and]
          refine ND.yes (by omega) ?_
          refine NP.mk (by omega) ?_
          refine NG.mapN (by omega) ?_
          refine NP.mk (by kernel_rfl) ?_
          apply NDr.rd [1]
          · intro fH TH
            exact ⟨rfl, rfl⟩
          apply NDr.pure
          · refine NCall.call (h1) rfl rfl ?_
            exact ⟨rfl, rfl⟩
          apply NDr.pure
          · exact ⟨rfl, rfl⟩
          apply NDr.pure
          · exact ⟨rfl, rfl⟩
          apply NDr.pure
          · exact ⟨rfl, rfl⟩
          refine NP.mk (by kernel_rfl) ?_
          exact NRet.mk [] rfl ⟨.refl _, rfl⟩
        | true =>
          rw [hp] at h1
          cases i with
          | zero =>
            refine ND.yes (by omega) ?_
            refine NP.mk (by omega) ?_
            refine NG.mapN (by omega) ?_
            refine NP.mk (by kernel_rfl) ?_
            apply NDr.rd [1]
            · intro fH TH
              exact ⟨rfl, rfl⟩
            apply NDr.pure
            · refine NCall.call (h1) rfl rfl ?_
              exact ⟨rfl, rfl⟩
            apply NDr.pure
            · exact ⟨rfl, rfl⟩
            apply NDr.pure
            · exact ⟨rfl, rfl⟩
            apply NDr.pure
            · exact ⟨rfl, rfl⟩
            apply NDr.pure
            · refine ND.no (by omega) ?_
              exact ⟨rfl, rfl⟩
            apply NDr.pure
            · exact ⟨rfl, rfl⟩
            apply NDr.pure
            · exact ⟨rfl, rfl⟩
            apply NDr.pure
            · exact ⟨rfl, rfl⟩
            refine NP.mk (by kernel_rfl) ?_
            refine NW.i64 (by omega) (by omega) ?_
            exact Canon.mk [0] rfl ⟨e.drops.length - 1, by omega, 1, by omega, rfl, seen_zero hil hp, rfl, rfl⟩
          | succ k =>
            have h2 := order_walk e.drops[k] e.drops[k + 1]
            have ho := order_dlt e.drops[k] e.drops[k + 1]
            have ek : Int.toNat (((k + 1 : Nat) : Int) - 1) = k := by omega
            generalize orI [cmpI e.drops[k].node e.drops[k + 1].node, cmpI e.drops[k].seq e.drops[k + 1].seq, cmpI e.drops[k].at' e.drops[k + 1].at'] = q at *
            cases hr : dlt e.drops[k] e.drops[k + 1] with
            | false =>
              rw [hr] at ho
              have hq : 0 ≤ q := Int.not_lt.1 fun h => by simpa using ho.1 h
              rw [seen_r hil hr, Bool.false_and]
              refine ND.yes (by omega) ?_
              refine NP.mk (by omega) ?_
              refine NG.mapN (by omega) ?_
              refine NP.mk (by kernel_rfl) ?_
              apply NDr.rd [1]
              · intro fH TH
                exact ⟨rfl, rfl⟩
              apply NDr.pure
              · refine NCall.call (h1) rfl rfl ?_
                exact ⟨rfl, rfl⟩
              apply NDr.pure
              · exact ⟨rfl, rfl⟩
              apply NDr.pure
              · exact ⟨rfl, rfl⟩
              apply NDr.pure
              · exact ⟨rfl, rfl⟩
              apply NDr.pure
              · refine ND.yes (by omega) ?_
                exact ⟨rfl, rfl⟩
              apply NDr.pure
              · exact ⟨rfl, rfl⟩
              apply NDr.rd [0]
              · intro fH TH
                exact ⟨rfl, rfl⟩
              apply NDr.rd [0]
              · intro fH TH
                exact ⟨rfl, rfl⟩
              apply NDr.pure
              · exact ⟨rfl, rfl⟩
              apply NDr.pure
              · refine NW.i64 (by omega) (by omega) ?_
                exact ⟨rfl, rfl⟩
              apply NDr.pure
              · refine NP.mk (by omega) ?_
                rw [(ek)]
                refine NG.mapN (by omega) ?_
                exact ⟨rfl, rfl⟩
              apply NDr.pure
              · exact ⟨rfl, rfl⟩
              apply NDr.rd [1]
              · intro fH TH
                exact ⟨rfl, rfl⟩
              apply NDr.pure
              · refine NCall.call (h2) rfl rfl ?_
                exact ⟨rfl, rfl⟩
              apply NDr.pure
              · refine ND.yes (by omega) ?_
                exact ⟨rfl, rfl⟩
              apply NDr.pure
              · exact ⟨rfl, rfl⟩
              apply NDr.pure
              · exact ⟨rfl, rfl⟩
              refine NP.mk (by kernel_rfl) ?_
              exact NRet.mk [] rfl ⟨.refl _, rfl⟩
            | true =>
              have hq := ho.2 hr
              refine ND.yes (by omega) ?_
              refine NP.mk (by omega) ?_
              refine NG.mapN (by omega) ?_
              refine NP.mk (by kernel_rfl) ?_
              apply NDr.rd [1]
              · intro fH TH
                exact ⟨rfl, rfl⟩
              apply NDr.pure
              · refine NCall.call (h1) rfl rfl ?_
                exact ⟨rfl, rfl⟩
              apply NDr.pure
              · exact ⟨rfl, rfl⟩
              apply NDr.pure
              · exact ⟨rfl, rfl⟩
              apply NDr.pure
              · exact ⟨rfl, rfl⟩
              apply NDr.pure
              · refine ND.yes (by omega) ?_
                exact ⟨rfl, rfl⟩
              apply NDr.pure
              · exact ⟨rfl, rfl⟩
              apply NDr.rd [0]
              · intro fH TH
                exact ⟨rfl, rfl⟩
              apply NDr.rd [0]
              · intro fH TH
                exact ⟨rfl, rfl⟩
              apply NDr.pure
              · exact ⟨rfl, rfl⟩
              apply NDr.pure
              · refine NW.i64 (by omega) (by omega) ?_
                exact ⟨rfl, rfl⟩
              apply NDr.pure
              · refine NP.mk (by omega) ?_
                rw [(ek)]
                refine NG.mapN (by omega) ?_
                exact ⟨rfl, rfl⟩
              apply NDr.pure
              · exact ⟨rfl, rfl⟩
              apply NDr.rd [1]
              · intro fH TH
                exact ⟨rfl, rfl⟩
              apply NDr.pure
              · refine NCall.call (h2) rfl rfl ?_
                exact ⟨rfl, rfl⟩
              apply NDr.pure
              · refine ND.no (by omega) ?_
                exact ⟨rfl, rfl⟩
              apply NDr.pure
              · exact ⟨rfl, rfl⟩
              apply NDr.pure
              · exact ⟨rfl, rfl⟩
              refine NP.mk (by kernel_rfl) ?_
              refine NW.i64 (by omega) (by omega) ?_
              exact Canon.mk [0] rfl ⟨e.drops.length - (k + 1 + 1), by omega, k + 1 + 1, by omega, rfl, seen_succ hil hs hp hr, rfl, rfl⟩
      · have : i = e.drops.length := by omega
        subst this
        rw [seen_end hs, Bool.true_and]
        have h3 := made_walk node seq e
        by_cases hk : e.kind = 0
        · rw [if_pos hk]
          have h4 := itemFormed_walk (made node seq { e with kind := 1 }) (smMade he)
          refine ND.no (by omega) ?_
          refine ND.yes (by omega) ?_
          refine NCall.call (h3) rfl rfl ?_
          refine NCall.call (h4) rfl rfl ?_
          refine NB.mk (fun hk3 => ?_) (fun hk3 => ?_)
          · refine NB.yes (by simp [*]) ?_
            refine NB.yes (by simp [*]) ?_
            refine NB.dec (fun hk6 => ?_) (fun hk6 => ?_)
            · refine NB.mk (fun hk7 => ?_) (fun hk7 => ?_)
              · refine NB.dec (fun hk8 => ?_) (fun hk8 => ?_)
                · refine NRet.boolE (b := true) ?_ (NRet.mk [] rfl ⟨.refl _, rfl⟩)
                  grind [List.length_eq_zero_iff]
                refine NRet.boolE (b := false) ?_ (NRet.mk [] rfl ⟨.refl _, rfl⟩)
                grind [List.length_eq_zero_iff]
              refine NRet.boolE (b := false) ?_ (NRet.mk [] rfl ⟨.refl _, rfl⟩)
              grind [List.length_eq_zero_iff]
            refine NB.yes (by simp [*]) ?_
            refine NRet.boolE (b := false) ?_ (NRet.mk [] rfl ⟨.refl _, rfl⟩)
            grind [List.length_eq_zero_iff]
          refine NB.no (by simp [*]) ?_
          refine NB.no (by simp [*]) ?_
          refine NB.no (by simp [*]) ?_
          refine NRet.boolE (b := false) ?_ (NRet.mk [] rfl ⟨.refl _, rfl⟩)
          grind [List.length_eq_zero_iff]
        · rw [if_neg hk]
          have h4 := itemFormed_walk (made node seq e) (smMade he)
          refine ND.no (by omega) ?_
          refine ND.no (by omega) ?_
          refine NCall.call (h3) rfl rfl ?_
          refine NCall.call (h4) rfl rfl ?_
          exact NRet.mk [] rfl ⟨.refl _, rfl⟩
  · rw [decide_eq_false h, Bool.false_and, Bool.false_and]
    refine ND.yes (by (simp only [List.length_map, List.length_append, List.length_replicate, List.length_cons, List.length_nil, List.length_take, List.length_drop]; omega)) ?_
    exact NRet.mk [] rfl ⟨.refl _, rfl⟩
def ownBad (node seq : Int) (e : Eff) (d : Dot) : Bool := decide (d.node = node ∧ d.seq = seq ∧ e.at' ≤ d.at')
theorem ownOk_any (node seq : Int) (e : Eff) : ownOk node seq e = !e.drops.any (ownBad node seq e) := by
  unfold ownOk ownBad
  rw [List.not_any_eq_all_not]
  congr 1; funext d
  simp
  grind
def atLt (a b : Eff) : Bool := decide (a.at' < b.at')
def eff1 (node seq : Int) (e : Eff) : Bool := effOk node seq e && ownOk node seq e
theorem rightF_walk (node seq : Int) (e : Eff) (d : Dot) : ACalls Try.prog Nm.eff_Right_1 [dotA d, .ptr 0 0 0, .ptr 1 0 0, .ptr 2 0 0] [.row .box .leaf [i64 node], .row .box .leaf [i64 seq], .row .box (.agg 7) [effA e]] (.bool (ownBad node seq e d)) [.row .box .leaf [i64 node], .row .box .leaf [i64 seq], .row .box (.agg 7) [effA e]] := by
  refine ACalls_of tab (dr_snd tab mixed) Nm.eff_Right_1_h rfl (by kernel_rfl) (Nat.le_of_ble_eq_true rfl) rfl ?_
  rw [ownBad]
  refine NB.dec (fun hk1 => ?_) (fun hk1 => ?_)
  · refine NB.dec (fun hk2 => ?_) (fun hk2 => ?_)
    · refine NB.dec (fun hk3 => ?_) (fun hk3 => ?_)
      · refine NRet.boolE (b := true) ?_ (NRet.mk [] rfl ⟨.refl _, rfl⟩)
        (simp only [decide_eq_true_eq, decide_eq_false_iff_not, eq_comm (a := true), eq_comm (a := false)]; omega)
      refine NRet.boolE (b := false) ?_ (NRet.mk [] rfl ⟨.refl _, rfl⟩)
      (simp only [decide_eq_true_eq, decide_eq_false_iff_not, eq_comm (a := true), eq_comm (a := false)]; omega)
    refine NRet.boolE (b := false) ?_ (NRet.mk [] rfl ⟨.refl _, rfl⟩)
    (simp only [decide_eq_true_eq, decide_eq_false_iff_not, eq_comm (a := true), eq_comm (a := false)]; omega)
  refine NRet.boolE (b := false) ?_ (NRet.mk [] rfl ⟨.refl _, rfl⟩)
  (simp only [decide_eq_true_eq, decide_eq_false_iff_not, eq_comm (a := true), eq_comm (a := false)]; omega)
def H3 (node seq : Int) (e : Eff) : List Blk := [.row .box .leaf [i64 node], .row .box .leaf [i64 seq], .row .box (.agg 7) [effA e]]
/-- slices.IndexFunc of dots; the function looks into three boxes. -/
theorem indexD_walk (g : Nat) (node seq : Int) (e : Eff) (l : List Dot) (p : Dot → Bool) (hl : l.length ≤ 2 ^ 40) (hg : ∀ d ∈ l, ACalls Try.prog g [dotA d, .ptr 0 0 0, .ptr 1 0 0, .ptr 2 0 0] (H3 node seq e) (.bool (p d)) (H3 node seq e)) :
    ACalls Try.prog Nm.slices_IndexFunc_api_Dot_api_Dot [dotsA l, .fn g [.ptr 0 0 0, .ptr 1 0 0, .ptr 2 0 0]] (H3 node seq e) (i64 (ixI p l)) (H3 node seq e) := by
  unfold H3 at *
  refine ACalls_of tab (dr_snd tab mixed) Nm.slices_IndexFunc_api_Dot_api_Dot_h rfl (by kernel_rfl) (Nat.le_of_ble_eq_true rfl) rfl ?_
  refine NLoop.mk [] [0, 1, 6, 7, 8] (fun m vs H => ∃ i, i ≤ l.length ∧ m = l.length - i ∧ (∀ x ∈ l.take i, p x = false) ∧ H = [.row .box .leaf [i64 node], .row .box .leaf [i64 seq], .row .box (.agg 7) [effA e]] ∧ vs = [dotsA l, .fn g [.ptr 0 0 0, .ptr 1 0 0, .ptr 2 0 0], dotsA l, i64 l.length, i64 i]) rfl ?_ ?_
  · exact Canon.mk [] rfl ⟨l.length, 0, Nat.zero_le _, rfl, by simp, rfl, by simp [dotsA, i64]⟩
  · rintro m vs H ⟨i, hi, rfl, ht, rfl, rfl⟩
    by_cases hil : i < l.length
    · have hc := hg _ (List.getElem_mem hil)
      obtain ⟨f1, f2⟩ := find_step hil ht
      cases hp : p l[i] with
      | true =>
        rw [hp] at hc
        rw [f1 hp]
        refine ND.yes (by omega) ?_
        refine NP.mk (by omega) ?_
        refine NG.mapN (by omega) ?_
        refine NCall.atA (hc) ?_
        exact NRet.mk [] rfl ⟨.refl _, rfl⟩
      | false =>
        rw [hp] at hc
        refine ND.yes (by omega) ?_
        refine NP.mk (by omega) ?_
        refine NG.mapN (by omega) ?_
        refine NCall.atA (hc) ?_
        refine NW.i64 (by omega) (by omega) ?_
        exact Canon.mk [] rfl ⟨l.length - (i + 1), by omega, i + 1, by omega, rfl, f2 hp, rfl, rfl⟩
    · have : i = l.length := by omega
      subst this
      rw [List.take_length] at ht
      rw [find_none ht]
      refine ND.no (by omega) ?_
      exact NRet.mk [] rfl ⟨.refl _, rfl⟩
theorem containsD_walk (g : Nat) (node seq : Int) (e : Eff) (l : List Dot) (p : Dot → Bool) (hl : l.length ≤ 2 ^ 40) (hg : ∀ d ∈ l, ACalls Try.prog g [dotA d, .ptr 0 0 0, .ptr 1 0 0, .ptr 2 0 0] (H3 node seq e) (.bool (p d)) (H3 node seq e)) :
    ACalls Try.prog Nm.slices_ContainsFunc_api_Dot_api_Dot [dotsA l, .fn g [.ptr 0 0 0, .ptr 1 0 0, .ptr 2 0 0]] (H3 node seq e) (.bool (l.any p)) (H3 node seq e) := by
  have hi := indexD_walk g node seq e l p hl hg
  unfold H3 at *
  refine ACalls_of tab (dr_snd tab mixed) Nm.slices_ContainsFunc_api_Dot_api_Dot_h rfl (by kernel_rfl) (Nat.le_of_ble_eq_true rfl) rfl ?_
  rw [ixI_any]
  by_cases h : 0 ≤ ixI p l
  · rw [decide_eq_true h]
    refine NCall.atA (hi) ?_
    refine ND.yes (by omega) ?_
    exact NRet.mk [] rfl ⟨.refl _, rfl⟩
  · rw [decide_eq_false h]
    refine NCall.atA (hi) ?_
    refine ND.no (by omega) ?_
    exact NRet.mk [] rfl ⟨.refl _, rfl⟩
theorem right_walk (node seq : Int) (l : List Eff) (hl : l.length ≤ 2 ^ 40) (hx : ∀ e ∈ l, smEff e) : ACalls Try.prog Nm.eff_Right [i64 node, i64 seq, effsA l] [] (.bool (effsOk node seq l)) [] := by
  refine ACalls_of tab (dr_snd tab mixed) Nm.eff_Right_h rfl (by kernel_rfl) (Nat.le_of_ble_eq_true rfl) rfl ?_
  have e0 : effsOk node seq l = (l.all (eff1 node seq) && adj atLt l) := rfl
  rw [e0]
  refine NLoop.mk [] [2, 3, 4, 9, 10, 11] (fun m vs H => ∃ i, i ≤ l.length ∧ m = l.length - i ∧ Seen (eff1 node seq) atLt l i ∧ H = [.row .box .leaf [i64 node], .row .box .leaf [i64 seq]] ∧ vs = [effsA l, .ptr 0 0 0, .ptr 1 0 0, effsA l, i64 l.length, i64 i]) rfl ?_ ?_
  · exact Canon.mk [0, 1] rfl ⟨l.length, 0, Nat.zero_le _, rfl, seen0 _ _ _, rfl, by simp [effsA, i64]⟩
  · rintro m vs H ⟨i, hi, rfl, hs, rfl, rfl⟩
    by_cases hil : i < l.length
    · have hxi := hx _ (List.getElem_mem hil)
      have h1 := effFormed_walk node seq l[i] hxi
      have h64 := hxi.2.2.2
      cases hp : effOk node seq l[i] with
      | false =>
        rw [hp] at h1
        rw [seen_p hil (by unfold eff1; rw [hp, Bool.false_and])]
        refine ND.yes (by omega) ?_
        refine NP.mk (by omega) ?_
        refine NG.mapN (by omega) ?_
        refine NP.mk (by kernel_rfl) ?_
        apply NDr.rd [0]
        · intro fH TH
          exact ⟨rfl, rfl⟩
        apply NDr.rd [1]
        · intro fH TH
          exact ⟨rfl, rfl⟩
        apply NDr.rd [2]
        · intro fH TH
          exact ⟨rfl, rfl⟩
        apply NDr.pure
        · refine NCall.call (h1) rfl rfl ?_
          exact ⟨rfl, rfl⟩
        apply NDr.pure
        · exact ⟨rfl, rfl⟩
        apply NDr.pure
        · exact ⟨rfl, rfl⟩
        apply NDr.pure
        · exact ⟨rfl, rfl⟩
        refine NP.mk (by kernel_rfl) ?_
        exact NRet.mk [] rfl ⟨.refl _, rfl⟩
      | true =>
        rw [hp] at h1
        have h2 := containsD_walk Nm.eff_Right_1 node seq l[i] l[i].drops (ownBad node seq l[i]) h64 (fun d _ => rightF_walk node seq l[i] d)
        unfold H3 at h2
        cases hb : l[i].drops.any (ownBad node seq l[i]) with
        | true =>
          rw [hb] at h2
          have e1 : eff1 node seq l[i] = false := by unfold eff1; rw [hp, Bool.true_and, ownOk_any, hb]; rfl
          rw [seen_p hil e1]
          cases i with
          | zero => refine ND.yes (by omega) ?_
                    refine NP.mk (by omega) ?_
                    refine NG.mapN (by omega) ?_
                    refine NP.mk (by kernel_rfl) ?_
                    apply NDr.rd [0]
                    · intro fH TH
                      exact ⟨rfl, rfl⟩
                    apply NDr.rd [1]
                    · intro fH TH
                      exact ⟨rfl, rfl⟩
                    apply NDr.rd [2]
                    · intro fH TH
                      exact ⟨rfl, rfl⟩
                    apply NDr.pure
                    · refine NCall.call (h1) rfl rfl ?_
                      exact ⟨rfl, rfl⟩
                    apply NDr.pure
                    · exact ⟨rfl, rfl⟩
                    apply NDr.pure
                    · exact ⟨rfl, rfl⟩
                    apply NDr.pure
                    · exact ⟨rfl, rfl⟩
                    apply NDr.pure
                    · refine ND.no (by omega) ?_
                      exact ⟨rfl, rfl⟩
                    apply NDr.pure
                    · exact ⟨rfl, rfl⟩
                    apply NDr.pure
                    · exact ⟨rfl, rfl⟩
                    apply NDr.pure
                    · exact ⟨rfl, rfl⟩
                    refine NP.mk (by kernel_rfl) ?_
                    refine NCall.atA (h2) ?_
                    exact NRet.mk [] rfl ⟨.refl _, rfl⟩
          | succ k =>
            have ek : Int.toNat (((k + 1 : Nat) : Int) - 1) = k := by omega
            refine ND.yes (by omega) ?_
            refine NP.mk (by omega) ?_
            refine NG.mapN (by omega) ?_
            refine NP.mk (by kernel_rfl) ?_
            apply NDr.rd [0]
            · intro fH TH
              exact ⟨rfl, rfl⟩
            apply NDr.rd [1]
            · intro fH TH
              exact ⟨rfl, rfl⟩
            apply NDr.rd [2]
            · intro fH TH
              exact ⟨rfl, rfl⟩
            apply NDr.pure
            · refine NCall.call (h1) rfl rfl ?_
              exact ⟨rfl, rfl⟩
            apply NDr.pure
            · exact ⟨rfl, rfl⟩
            apply NDr.pure
            · exact ⟨rfl, rfl⟩
            apply NDr.pure
            · exact ⟨rfl, rfl⟩
            apply NDr.pure
            · refine ND.yes (by omega) ?_
              exact ⟨rfl, rfl⟩
            apply NDr.pure
            · exact ⟨rfl, rfl⟩
            apply NDr.pure
            · exact ⟨rfl, rfl⟩
            apply NDr.pure
            · exact ⟨rfl, rfl⟩
            apply NDr.pure
            · refine NW.i64 (by omega) (by omega) ?_
              exact ⟨rfl, rfl⟩
            apply NDr.pure
            · refine NP.mk (by omega) ?_
              rw [(ek)]
              refine NG.mapN (by omega) ?_
              exact ⟨rfl, rfl⟩
            apply NDr.pure
            · exact ⟨rfl, rfl⟩
            apply NDr.pure
            · exact ⟨rfl, rfl⟩
            apply NDr.rd [2]
            · intro fH TH
              exact ⟨rfl, rfl⟩
            apply NDr.rd [2]
            · intro fH TH
              exact ⟨rfl, rfl⟩
            apply NDr.pure
            · exact NB.det
            apply NDr.pure
            · exact ⟨rfl, rfl⟩
            apply NDr.pure
            · exact ⟨rfl, rfl⟩
            refine NP.mk (by kernel_rfl) ?_
            refine NB.mk (fun hk4 => ?_) (fun hk4 => ?_)
            · exact NRet.mk [] rfl ⟨.refl _, rfl⟩
            refine NCall.atA (h2) ?_
            exact NRet.mk [] rfl ⟨.refl _, rfl⟩
        | false =>
          rw [hb] at h2
          have e1 : eff1 node seq l[i] = true := by unfold eff1; rw [hp, Bool.true_and, ownOk_any, hb]; rfl
          cases i with
          | zero =>
            refine ND.yes (by omega) ?_
            refine NP.mk (by omega) ?_
            refine NG.mapN (by omega) ?_
            refine NP.mk (by kernel_rfl) ?_
            apply NDr.rd [0]
            · intro fH TH
              exact ⟨rfl, rfl⟩
            apply NDr.rd [1]
            · intro fH TH
              exact ⟨rfl, rfl⟩
            apply NDr.rd [2]
            · intro fH TH
              exact ⟨rfl, rfl⟩
            apply NDr.pure
            · refine NCall.call (h1) rfl rfl ?_
              exact ⟨rfl, rfl⟩
            apply NDr.pure
            · exact ⟨rfl, rfl⟩
            apply NDr.pure
            · exact ⟨rfl, rfl⟩
            apply NDr.pure
            · exact ⟨rfl, rfl⟩
            apply NDr.pure
            · refine ND.no (by omega) ?_
              exact ⟨rfl, rfl⟩
            apply NDr.pure
            · exact ⟨rfl, rfl⟩
            apply NDr.pure
            · exact ⟨rfl, rfl⟩
            apply NDr.pure
            · exact ⟨rfl, rfl⟩
            refine NP.mk (by kernel_rfl) ?_
            refine NCall.atA (h2) ?_
            refine NW.i64 (by omega) (by omega) ?_
            exact Canon.mk [0, 1] rfl ⟨l.length - (0 + 1), by omega, 0 + 1, by omega, rfl, seen_zero hil e1, rfl, rfl⟩
          | succ k =>
            have ek : Int.toNat (((k + 1 : Nat) : Int) - 1) = k := by omega
            cases hr : atLt l[k] l[k + 1] with
            | false =>
              have hr' := hr
              unfold atLt at hr'
              rw [decide_eq_false_iff_not] at hr'
              rw [seen_r hil hr]
              refine ND.yes (by omega) ?_
              refine NP.mk (by omega) ?_
              refine NG.mapN (by omega) ?_
              refine NP.mk (by kernel_rfl) ?_
              apply NDr.rd [0]
              · intro fH TH
                exact ⟨rfl, rfl⟩
              apply NDr.rd [1]
              · intro fH TH
                exact ⟨rfl, rfl⟩
              apply NDr.rd [2]
              · intro fH TH
                exact ⟨rfl, rfl⟩
              apply NDr.pure
              · refine NCall.call (h1) rfl rfl ?_
                exact ⟨rfl, rfl⟩
              apply NDr.pure
              · exact ⟨rfl, rfl⟩
              apply NDr.pure
              · exact ⟨rfl, rfl⟩
              apply NDr.pure
              · exact ⟨rfl, rfl⟩
              apply NDr.pure
              · refine ND.yes (by omega) ?_
                exact ⟨rfl, rfl⟩
              apply NDr.pure
              · exact ⟨rfl, rfl⟩
              apply NDr.pure
              · exact ⟨rfl, rfl⟩
              apply NDr.pure
              · exact ⟨rfl, rfl⟩
              apply NDr.pure
              · refine NW.i64 (by omega) (by omega) ?_
                exact ⟨rfl, rfl⟩
              apply NDr.pure
              · refine NP.mk (by omega) ?_
                rw [(ek)]
                refine NG.mapN (by omega) ?_
                exact ⟨rfl, rfl⟩
              apply NDr.pure
              · exact ⟨rfl, rfl⟩
              apply NDr.pure
              · exact ⟨rfl, rfl⟩
              apply NDr.rd [2]
              · intro fH TH
                exact ⟨rfl, rfl⟩
              apply NDr.rd [2]
              · intro fH TH
                exact ⟨rfl, rfl⟩
              apply NDr.pure
              · refine ND.yes (by omega) ?_
                exact ⟨rfl, rfl⟩
              apply NDr.pure
              · exact ⟨rfl, rfl⟩
              apply NDr.pure
              · exact ⟨rfl, rfl⟩
              refine NP.mk (by kernel_rfl) ?_
              exact NRet.mk [] rfl ⟨.refl _, rfl⟩
            | true =>
              have hr' := hr
              unfold atLt at hr'
              rw [decide_eq_true_eq] at hr'
              refine ND.yes (by omega) ?_
              refine NP.mk (by omega) ?_
              refine NG.mapN (by omega) ?_
              refine NP.mk (by kernel_rfl) ?_
              apply NDr.rd [0]
              · intro fH TH
                exact ⟨rfl, rfl⟩
              apply NDr.rd [1]
              · intro fH TH
                exact ⟨rfl, rfl⟩
              apply NDr.rd [2]
              · intro fH TH
                exact ⟨rfl, rfl⟩
              apply NDr.pure
              · refine NCall.call (h1) rfl rfl ?_
                exact ⟨rfl, rfl⟩
              apply NDr.pure
              · exact ⟨rfl, rfl⟩
              apply NDr.pure
              · exact ⟨rfl, rfl⟩
              apply NDr.pure
              · exact ⟨rfl, rfl⟩
              apply NDr.pure
              · refine ND.yes (by omega) ?_
                exact ⟨rfl, rfl⟩
              apply NDr.pure
              · exact ⟨rfl, rfl⟩
              apply NDr.pure
              · exact ⟨rfl, rfl⟩
              apply NDr.pure
              · exact ⟨rfl, rfl⟩
              apply NDr.pure
              · refine NW.i64 (by omega) (by omega) ?_
                exact ⟨rfl, rfl⟩
              apply NDr.pure
              · refine NP.mk (by omega) ?_
                rw [(ek)]
                refine NG.mapN (by omega) ?_
                exact ⟨rfl, rfl⟩
              apply NDr.pure
              · exact ⟨rfl, rfl⟩
              apply NDr.pure
              · exact ⟨rfl, rfl⟩
              apply NDr.rd [2]
              · intro fH TH
                exact ⟨rfl, rfl⟩
              apply NDr.rd [2]
              · intro fH TH
                exact ⟨rfl, rfl⟩
              apply NDr.pure
              · refine ND.no (by omega) ?_
                exact ⟨rfl, rfl⟩
              apply NDr.pure
              · exact ⟨rfl, rfl⟩
              apply NDr.pure
              · exact ⟨rfl, rfl⟩
              refine NP.mk (by kernel_rfl) ?_
              refine NCall.atA (h2) ?_
              refine NW.i64 (by omega) (by omega) ?_
              exact Canon.mk [0, 1] rfl ⟨l.length - (k + 1 + 1), by omega, k + 1 + 1, by omega, rfl, seen_succ hil hs e1 hr, rfl, rfl⟩
    · have : i = l.length := by omega
      subst this
      rw [seen_end hs]
      refine ND.no (by omega) ?_
      exact NRet.mk [] rfl ⟨.refl _, rfl⟩
end Go.Bv
namespace Go.Bv
open Go Go.Proofs
def lexR {α β : Type} (f : α → β) (r : β → β → Prop) (s : α → α → Prop) (a b : α) : Prop := r (f a) (f b) ∨ f a = f b ∧ s a b
@[instance_reducible] def lexD {α β : Type} [DecidableEq β] {f : α → β} {r : β → β → Prop} {s : α → α → Prop} [DecidableRel r] (hs : DecidableRel s) : DecidableRel (lexR f r s) := fun a b => have := hs a b; inferInstanceAs (Decidable (r (f a) (f b) ∨ f a = f b ∧ s a b))
theorem lex_irrefl {α β : Type} {f : α → β} {r : β → β → Prop} {s : α → α → Prop} (hr : ∀ x, ¬ r x x) (hs : ∀ x, ¬ s x x) : ∀ x, ¬ lexR f r s x x := fun x h => by
  rcases h with h | h
  · exact hr _ h
  · exact hs _ h.2
theorem lex_trans {α β : Type} {f : α → β} {r : β → β → Prop} {s : α → α → Prop} (hr : ∀ x y z, r x y → r y z → r x z) (hs : ∀ x y z, s x y → s y z → s x z) : ∀ x y z, lexR f r s x y → lexR f r s y z → lexR f r s x z := fun x y z h k => by
  rcases h with h | ⟨h1, h2⟩ <;> rcases k with k | ⟨k1, k2⟩
  · exact .inl (hr _ _ _ h k)
  · exact .inl (k1 ▸ h)
  · exact .inl (h1 ▸ k)
  · exact .inr ⟨h1.trans k1, hs _ _ _ h2 k2⟩
theorem lex_tri {α β : Type} {f : α → β} {r : β → β → Prop} {s E : α → α → Prop} (hr : ∀ x y, r x y ∨ x = y ∨ r y x) (hs : ∀ x y, s x y ∨ E x y ∨ s y x) : ∀ x y, lexR f r s x y ∨ (f x = f y ∧ E x y) ∨ lexR f r s y x := fun x y => by
  rcases hr (f x) (f y) with h | h | h
  · exact .inl (.inl h)
  · rcases hs x y with k | k | k
    · exact .inl (.inr ⟨h, k⟩)
    · exact .inr (.inl ⟨h, k⟩)
    · exact .inr (.inr (.inr ⟨h.symm, k⟩))
  · exact .inr (.inr (.inl h))
def ltS (a b : List UInt8) : Prop := a < b
instance : DecidableRel ltS := fun a b => inferInstanceAs (Decidable (a < b))
def ltZ (a b : Int) : Prop := a < b
instance : DecidableRel ltZ := fun a b => inferInstanceAs (Decidable (a < b))
def ltN (a b : Item) : Prop := ltZ a.n b.n
instance : DecidableRel ltN := fun a b => inferInstanceAs (Decidable (a.n < b.n))
def ILt : Item → Item → Prop := lexR Item.key ltS (lexR Item.field ltS (lexR Item.kind ltZ (lexR (fun x => x.dot.node) ltZ (lexR (fun x => x.dot.seq) ltZ (lexR (fun x => x.dot.at') ltZ (lexR Item.elem ltS ltN))))))
instance : DecidableRel ILt := lexD (lexD (lexD (lexD (lexD (lexD (lexD (inferInstanceAs (DecidableRel ltN))))))))
theorem ltS_irrefl (x : List UInt8) : ¬ ltS x x := List.lt_irrefl x
theorem ltS_trans (x y z : List UInt8) (h1 : ltS x y) (h2 : ltS y z) : ltS x z := List.lt_trans h1 h2
theorem ltS_tri (x y : List UInt8) : ltS x y ∨ x = y ∨ ltS y x := by
  by_cases h1 : x < y
  · exact .inl h1
  · by_cases h2 : y < x
    · exact .inr (.inr h2)
    · exact .inr (.inl (List.le_antisymm (List.not_lt.1 h2) (List.not_lt.1 h1)))
theorem ltZ_irrefl (x : Int) : ¬ ltZ x x := Int.lt_irrefl x
theorem ltZ_trans (x y z : Int) (h1 : ltZ x y) (h2 : ltZ y z) : ltZ x z := Int.lt_trans h1 h2
theorem ltZ_tri (x y : Int) : ltZ x y ∨ x = y ∨ ltZ y x := Int.lt_trichotomy x y
theorem ILt_irrefl (x : Item) : ¬ ILt x x := lex_irrefl ltS_irrefl (lex_irrefl ltS_irrefl (lex_irrefl ltZ_irrefl (lex_irrefl ltZ_irrefl (lex_irrefl ltZ_irrefl (lex_irrefl ltZ_irrefl (lex_irrefl ltS_irrefl fun x => ltZ_irrefl x.n)))))) x
theorem ILt_trans {x y z : Item} (h1 : ILt x y) (h2 : ILt y z) : ILt x z :=
  lex_trans ltS_trans (lex_trans ltS_trans (lex_trans ltZ_trans (lex_trans ltZ_trans (lex_trans ltZ_trans (lex_trans ltZ_trans (lex_trans ltS_trans fun x y z => ltZ_trans x.n y.n z.n)))))) x y z h1 h2
theorem ILt_tri (x y : Item) : ILt x y ∨ x = y ∨ ILt y x := by
  rcases lex_tri (f := Item.key) ltS_tri (lex_tri (f := Item.field) ltS_tri (lex_tri (f := Item.kind) ltZ_tri (lex_tri (f := fun x : Item => x.dot.node) ltZ_tri (lex_tri (f := fun x : Item => x.dot.seq) ltZ_tri (lex_tri (f := fun x : Item => x.dot.at') ltZ_tri
    (lex_tri (f := Item.elem) ltS_tri (s := ltN) (E := fun a b => a.n = b.n) fun x y => ltZ_tri x.n y.n)))))) x y with h | ⟨h1, h2, h3, h4, h5, h6, h7, h8⟩ | h
  · exact .inl h
  · exact .inr (.inl (Item.ext h1 h2 h3 h7 h8 (Dot.ext h4 h5 h6)))
  · exact .inr (.inr h)
def ltI (a b : Item) : Bool := decide (ILt a b)
instance : Inhabited Item := ⟨⟨[], [], 0, [], 0, ⟨0, 0, 0⟩⟩⟩
theorem swoI : Go.Sort.SWO ltI where
  irrefl x := decide_eq_false (ILt_irrefl x)
  trans x y z h1 h2 := decide_eq_true (ILt_trans (of_decide_eq_true h1) (of_decide_eq_true h2))
  ntrans x y z h1 h2 := decide_eq_false fun h => by
    have h1 := of_decide_eq_false h1
    have h2 := of_decide_eq_false h2
    rcases ILt_tri x y with k | rfl | k
    · exact h1 k
    · exact h2 h
    · exact h2 (ILt_trans k h)
def leI (x y : Item) : Bool := !ltI y x
def isort (l : List Item) : List Item := l.mergeSort leI
theorem pdq_isort (l : List Item) (limit : Nat) : (Go.Sort.pdq ltI l.toArray 0 l.length limit true true).toList = isort l := by
  have h := Go.Sort.pdq_sorts ltI swoI l.toArray 0 l.length limit true true (Nat.zero_le _) (by simp) (Or.inl rfl)
  have := Go.Sort.sorted_unique_holds swoI (fun x y h1 h2 => by
    rcases ILt_tri x y with k | k | k
    · exact absurd k (of_decide_eq_false h1)
    · exact k
    · exact absurd k (of_decide_eq_false h2)) l.toArray _ (by simpa using h.1) (by simpa using h.2)
  exact this
theorem isort_perm (l : List Item) : (isort l).Perm l := List.mergeSort_perm _ _
theorem isort_pw (l : List Item) : (isort l).Pairwise fun a b => ¬ ILt b a := by
  have := List.pairwise_mergeSort (le := leI) (fun a b c h1 h2 => by
    unfold leI at *
    simp only [Bool.not_eq_true'] at *
    exact swoI.ntrans c b a h2 h1) (fun a b => by
    unfold leI ltI
    rcases ILt_tri a b with k | rfl | k
    · have : ¬ ILt b a := fun h => ILt_irrefl _ (ILt_trans h k)
      simp [this]
    · simp [ILt_irrefl]
    · have : ¬ ILt a b := fun h => ILt_irrefl _ (ILt_trans h k)
      simp [this]) l
  exact this.imp fun h => by unfold leI ltI at h; simpa using h
/-- Of each dot the first one. -/
def nubF : List Dot → List Item → List Item
  | _, [] => []
  | seen, x :: r => if x.dot ∈ seen then nubF seen r else x :: nubF (x.dot :: seen) r
def norm (l : List Item) : List Item := nubF [] (isort l)
theorem nubF_sub : ∀ (seen : List Dot) (l : List Item), (nubF seen l).Sublist l
  | _, [] => .slnil
  | seen, x :: r => by
    rw [nubF]
    split
    · exact (nubF_sub seen r).cons _
    · exact (nubF_sub _ r).cons_cons _
theorem nubF_mem : ∀ {l : List Item} (seen : List Dot), l.Pairwise (fun a b => ¬ ILt b a) → ∀ x, x ∈ nubF seen l ↔ x.dot ∉ seen ∧ x ∈ l ∧ ∀ y ∈ l, y.dot = x.dot → ¬ ILt y x
  | [], seen, _, x => by simp [nubF]
  | a :: r, seen, h, x => by
    rw [List.pairwise_cons] at h
    rw [nubF]
    split
    · rename_i ha
      rw [nubF_mem seen h.2 x]
      constructor
      · rintro ⟨h1, h2, h3⟩
        refine ⟨h1, List.mem_cons_of_mem _ h2, fun y hy e => ?_⟩
        rcases List.mem_cons.1 hy with rfl | hy
        · exact absurd (e ▸ ha) h1
        · exact h3 y hy e
      · rintro ⟨h1, h2, h3⟩
        refine ⟨h1, ?_, fun y hy => h3 y (List.mem_cons_of_mem _ hy)⟩
        rcases List.mem_cons.1 h2 with rfl | h2
        · exact absurd ha h1
        · exact h2
    · rename_i ha
      rw [List.mem_cons, nubF_mem _ h.2 x]
      constructor
      · rintro (rfl | ⟨h1, h2, h3⟩)
        · refine ⟨ha, List.mem_cons_self .., fun y hy _ => ?_⟩
          rcases List.mem_cons.1 hy with rfl | hy
          · exact ILt_irrefl _
          · exact h.1 y hy
        · rw [List.mem_cons, not_or] at h1
          refine ⟨h1.2, List.mem_cons_of_mem _ h2, fun y hy e => ?_⟩
          rcases List.mem_cons.1 hy with rfl | hy
          · exact absurd e.symm h1.1
          · exact h3 y hy e
      · rintro ⟨h1, h2, h3⟩
        by_cases e : x.dot = a.dot
        · refine .inl ?_
          rcases List.mem_cons.1 h2 with rfl | h2
          · rfl
          · rcases ILt_tri x a with k | k | k
            · exact absurd k (h.1 x h2)
            · exact k
            · exact absurd k (h3 a (List.mem_cons_self ..) e.symm)
        · refine .inr ⟨by rw [List.mem_cons, not_or]; exact ⟨e, h1⟩, ?_, fun y hy => h3 y (List.mem_cons_of_mem _ hy)⟩
          rcases List.mem_cons.1 h2 with rfl | h2
          · exact absurd rfl e
          · exact h2
theorem nubF_seen : ∀ (l : List Item) (seen : List Dot), ∀ x ∈ nubF seen l, x.dot ∉ seen
  | [], _, x, h => by simp [nubF] at h
  | a :: r, seen, x, h => by
    rw [nubF] at h
    split at h
    · exact nubF_seen r seen x h
    · rcases List.mem_cons.1 h with rfl | h
      · assumption
      · exact fun hx => nubF_seen r _ x h (List.mem_cons_of_mem _ hx)
theorem nubF_dots : ∀ (l : List Item) (seen : List Dot), (nubF seen l).Pairwise fun a b => a.dot ≠ b.dot
  | [], _ => by simp [nubF]
  | a :: r, seen => by
    rw [nubF]
    split
    · exact nubF_dots r seen
    · refine List.pairwise_cons.2 ⟨fun x hx e => nubF_seen r _ x hx ?_, nubF_dots r _⟩
      rw [← e]; exact List.mem_cons_self ..
/-- What of some items is the least of its dot. -/
def Lst (l : List Item) (x : Item) : Prop := x ∈ l ∧ ∀ y ∈ l, y.dot = x.dot → ¬ ILt y x
theorem mem_norm {l : List Item} {x : Item} : x ∈ norm l ↔ Lst l x := by
  unfold norm
  rw [nubF_mem [] (isort_pw l)]
  simp only [List.not_mem_nil, not_false_eq_true, true_and, (isort_perm l).mem_iff]
  rfl
theorem norm_dots (l : List Item) : (norm l).Pairwise fun a b => a.dot ≠ b.dot := nubF_dots _ _
theorem norm_pw (l : List Item) : (norm l).Pairwise ILt := by
  refine (norm_dots l).imp₂ ?_ ((isort_pw l).sublist (nubF_sub [] _))
  intro a b h1 h2
  rcases ILt_tri a b with k | rfl | k
  · exact k
  · exact absurd rfl h1
  · exact absurd k h2
theorem pwI_eq {l m : List Item} (hl : l.Pairwise ILt) (hm : m.Pairwise ILt) (h : ∀ x, x ∈ l ↔ x ∈ m) : l = m := by
  have nl : l.Nodup := hl.imp fun {a b} h => fun e => ILt_irrefl b (by rwa [e] at h)
  have nm : m.Nodup := hm.imp fun {a b} h => fun e => ILt_irrefl b (by rwa [e] at h)
  refine List.Perm.eq_of_pairwise (le := ILt) ?_ hl hm ((List.perm_ext_iff_of_nodup nl nm).2 h)
  intro a b _ _ h1 h2
  exact absurd (ILt_trans h1 h2) (ILt_irrefl a)
theorem norm_eq {l m : List Item} (h : ∀ x, Lst l x ↔ Lst m x) : norm l = norm m :=
  pwI_eq (norm_pw l) (norm_pw m) fun x => by rw [mem_norm, mem_norm]; exact h x
theorem norm_congr {l m : List Item} (h : ∀ x, x ∈ l ↔ x ∈ m) : norm l = norm m := norm_eq fun x => by
  unfold Lst
  simp only [h]
theorem norm_is {l m : List Item} (hm : m.Pairwise ILt) (h : ∀ x, x ∈ m ↔ Lst l x) : norm l = m :=
  pwI_eq (norm_pw l) hm fun x => by rw [mem_norm, h]
theorem norm_self {l : List Item} (h : l.Pairwise ILt) (hd : l.Pairwise fun a b => a.dot ≠ b.dot) : norm l = l := norm_is h fun x => by
  refine ⟨fun hx => ⟨hx, fun y hy e => ?_⟩, fun hx => hx.1⟩
  have : y = x := by
    rw [List.pairwise_iff_getElem] at hd
    obtain ⟨i, hi, rfl⟩ := List.getElem_of_mem hx
    obtain ⟨j, hj, rfl⟩ := List.getElem_of_mem hy
    rcases Nat.lt_trichotomy i j with k | rfl | k
    · exact absurd e.symm (hd i j hi hj k)
    · rfl
    · exact absurd e (hd j i hj hi k)
  rw [this]; exact ILt_irrefl x
theorem norm_idem (l : List Item) : norm (norm l) = norm l := norm_self (norm_pw l) (norm_dots l)
theorem norm_mem {l : List Item} {x : Item} (h : x ∈ norm l) : x ∈ l := (mem_norm.1 h).1
theorem ex_min : ∀ {l : List Item}, l ≠ [] → ∃ z ∈ l, ∀ w ∈ l, ¬ ILt w z
  | [], h => absurd rfl h
  | a :: r, _ => by
    by_cases hr : r = []
    · subst hr
      exact ⟨a, List.mem_cons_self .., fun w hw => by rw [List.mem_singleton.1 hw]; exact ILt_irrefl a⟩
    · obtain ⟨z, hz, hm⟩ := ex_min hr
      by_cases h : ILt a z
      · refine ⟨a, List.mem_cons_self .., fun w hw k => ?_⟩
        rcases List.mem_cons.1 hw with rfl | hw
        · exact ILt_irrefl _ k
        · exact hm w hw (ILt_trans k h)
      · refine ⟨z, List.mem_cons_of_mem _ hz, fun w hw => ?_⟩
        rcases List.mem_cons.1 hw with rfl | hw
        · exact h
        · exact hm w hw
theorem ex_lst {l : List Item} {y : Item} (h : y ∈ l) : ∃ z, Lst l z ∧ z.dot = y.dot ∧ ¬ ILt y z := by
  have hy : y ∈ l.filter fun x => decide (x.dot = y.dot) := by simp [h]
  obtain ⟨z, hz, hm⟩ := ex_min (List.ne_nil_of_mem hy)
  simp only [List.mem_filter, decide_eq_true_eq] at hz hm
  exact ⟨z, ⟨hz.1, fun w hw e => hm w ⟨hw, e.trans hz.2⟩⟩, hz.2, hm y ⟨h, rfl⟩⟩
theorem Lst.le {l : List Item} {x y : Item} (h : Lst l x) (hy : ∀ z, Lst l z → z.dot = x.dot → ¬ ILt z x) : y ∈ l → y.dot = x.dot → ¬ ILt y x := fun hy' e => h.2 y hy' e
/-- The least ones are enough. -/
theorem lst_le {l : List Item} {x : Item} (h : ∀ z, Lst l z → z.dot = x.dot → ¬ ILt z x) : ∀ y ∈ l, y.dot = x.dot → ¬ ILt y x := fun y hy e k => by
  obtain ⟨z, hz, ez, hn⟩ := ex_lst hy
  refine h z hz (ez.trans e) ?_
  rcases ILt_tri y z with k' | rfl | k'
  · exact absurd k' hn
  · exact k
  · exact ILt_trans k' k
theorem lst_of {l m : List Item} (h : norm l = norm m) (x : Item) : Lst l x ↔ Lst m x := by
  rw [← mem_norm, ← mem_norm, h]
theorem norm_app {l m : List Item} (h : norm l = norm m) (c : List Item) : norm (l ++ c) = norm (m ++ c) := by
  have hl := lst_of h
  have one : ∀ {l m : List Item}, (∀ x, Lst l x ↔ Lst m x) → ∀ x, Lst (l ++ c) x → Lst (m ++ c) x := by
    intro l m hl x hx
    have hle : ∀ y ∈ m ++ c, y.dot = x.dot → ¬ ILt y x := by
      intro y hy e
      rcases List.mem_append.1 hy with hy | hy
      · refine lst_le (l := m) (fun z hz ez => ?_) y hy e
        exact hx.2 z (List.mem_append_left _ ((hl z).2 hz).1) ez
      · exact hx.2 y (List.mem_append_right _ hy) e
    refine ⟨?_, hle⟩
    rcases List.mem_append.1 hx.1 with h1 | h1
    · exact List.mem_append_left _ ((hl x).1 ⟨h1, fun y hy => hx.2 y (List.mem_append_left _ hy)⟩).1
    · exact List.mem_append_right _ h1
  exact norm_eq fun x => ⟨one hl x, one (fun x => (hl x).symm) x⟩
theorem norm_filter {l m : List Item} (h : norm l = norm m) (p : Dot → Bool) : norm (l.filter fun x => p x.dot) = norm (m.filter fun x => p x.dot) := by
  have hl := lst_of h
  have one : ∀ {l m : List Item}, (∀ x, Lst l x ↔ Lst m x) → ∀ x, Lst (l.filter fun x => p x.dot) x → Lst (m.filter fun x => p x.dot) x := by
    intro l m hl x hx
    obtain ⟨h1, h2⟩ := hx
    rw [List.mem_filter] at h1
    have : Lst m x := (hl x).1 ⟨h1.1, fun y hy e => h2 y (List.mem_filter.2 ⟨hy, by rw [e]; exact h1.2⟩) e⟩
    exact ⟨List.mem_filter.2 ⟨this.1, h1.2⟩, fun y hy => this.2 y (List.mem_filter.1 hy).1⟩
  exact norm_eq fun x => ⟨one hl x, one (fun x => (hl x).symm) x⟩
def putI : List Item → Item → List Item
  | [], x => [x]
  | y :: r, x => if ltI y x then y :: putI r x else x :: y :: r
theorem putI_perm : ∀ (l : List Item) (x : Item), (putI l x).Perm (x :: l)
  | [], x => .refl _
  | y :: r, x => by
    rw [putI]
    split
    · exact ((putI_perm r x).cons y).trans (.swap ..)
    · exact .refl _
theorem putI_pw : ∀ {l : List Item} {x : Item}, l.Pairwise ILt → x ∉ l → (putI l x).Pairwise ILt
  | [], x, _, _ => by simp [putI]
  | y :: r, x, h, hx => by
    rw [List.pairwise_cons] at h
    rw [List.mem_cons, not_or] at hx
    rw [putI]
    split
    · rename_i hyx
      refine List.pairwise_cons.2 ⟨fun z hz => ?_, putI_pw h.2 hx.2⟩
      rcases List.mem_cons.1 ((putI_perm r x).mem_iff.1 hz) with rfl | hz
      · exact of_decide_eq_true hyx
      · exact h.1 z hz
    · rename_i hyx
      have hyx : ¬ ILt y x := fun k => hyx (decide_eq_true k)
      have : ILt x y := by
        rcases ILt_tri x y with k | k | k
        · exact k
        · exact absurd k hx.1
        · exact absurd k hyx
      refine List.pairwise_cons.2 ⟨fun z hz => ?_, List.pairwise_cons.2 h⟩
      rcases List.mem_cons.1 hz with rfl | hz
      · exact this
      · exact ILt_trans this (h.1 z hz)
/-- Is the i-th the first of its dot? -/
def firstAt (l : List Item) (i : Nat) (x : Item) : Prop := ∀ (k : Nat) (y : Item), l[k]? = some y → y.dot = x.dot → ¬ ILt y x ∧ ¬ (y = x ∧ k < i)
theorem first_lst {l : List Item} {i : Nat} {x : Item} (h : l[i]? = some x) (hf : firstAt l i x) : Lst l x :=
  ⟨List.mem_of_getElem? h, fun y hy e => by
    obtain ⟨k, hk⟩ := List.getElem?_of_mem hy
    exact (hf k y hk e).1⟩
theorem ex_first {l : List Item} {x : Item} (h : Lst l x) : ∃ i, l[i]? = some x ∧ firstAt l i x := by
  obtain ⟨i, hi⟩ := List.getElem?_of_mem h.1
  induction i using Nat.strongRecOn with
  | _ i ih =>
    by_cases hk : ∃ k, k < i ∧ l[k]? = some x
    · obtain ⟨k, hk, h2⟩ := hk
      exact ih k hk h2
    · refine ⟨i, hi, fun k y hy e => ⟨h.2 y (List.mem_of_getElem? hy) e, fun ⟨e2, e3⟩ => hk ⟨k, e3, e2 ▸ hy⟩⟩⟩
theorem first_one {l : List Item} {i j : Nat} {x : Item} (hi : l[i]? = some x) (hj : l[j]? = some x) (h1 : firstAt l i x) (h2 : firstAt l j x) : i = j := by
  rcases Nat.lt_trichotomy i j with h | h | h
  · exact absurd ⟨rfl, h⟩ (h2 i x hi rfl).2
  · exact h
  · exact absurd ⟨rfl, h⟩ (h1 j x hj rfl).2
/-- What is laid after i looks. -/
def Laid (l out : List Item) (i : Nat) : Prop := out.Pairwise ILt ∧ ∀ x, x ∈ out ↔ ∃ j, j < i ∧ l[j]? = some x ∧ firstAt l j x
theorem laid_zero (l : List Item) : Laid l [] 0 := ⟨.nil, fun x => by simp⟩
theorem laid_skip {l out : List Item} {i : Nat} {x : Item} (h : Laid l out i) (hx : l[i]? = some x) (hf : ¬ firstAt l i x) : Laid l out (i + 1) := by
  refine ⟨h.1, fun y => ?_⟩
  rw [h.2]
  refine ⟨fun ⟨j, h1, h2, h3⟩ => ⟨j, by omega, h2, h3⟩, fun ⟨j, h1, h2, h3⟩ => ⟨j, ?_, h2, h3⟩⟩
  rcases Nat.lt_or_ge j i with k | k
  · exact k
  · have : j = i := by omega
    subst this
    rw [hx] at h2
    exact absurd (Option.some.inj h2 ▸ h3) hf
theorem laid_put {l out : List Item} {i : Nat} {x : Item} (h : Laid l out i) (hx : l[i]? = some x) (hf : firstAt l i x) : Laid l (putI out x) (i + 1) := by
  have hn : x ∉ out := fun k => by
    obtain ⟨j, h1, h2, h3⟩ := (h.2 x).1 k
    have := first_one h2 hx h3 hf
    omega
  refine ⟨putI_pw h.1 hn, fun y => ?_⟩
  rw [(putI_perm out x).mem_iff, List.mem_cons, h.2]
  constructor
  · rintro (rfl | ⟨j, h1, h2, h3⟩)
    · exact ⟨i, by omega, hx, hf⟩
    · exact ⟨j, by omega, h2, h3⟩
  · rintro ⟨j, h1, h2, h3⟩
    rcases Nat.lt_or_ge j i with k | k
    · exact .inr ⟨j, k, h2, h3⟩
    · have : j = i := by omega
      subst this
      rw [hx] at h2
      exact .inl (Option.some.inj h2).symm
theorem laid_end {l out : List Item} (h : Laid l out l.length) : out = norm l := by
  refine (norm_is h.1 fun x => ?_).symm
  rw [h.2]
  exact ⟨fun ⟨j, _, h2, h3⟩ => first_lst h2 h3, fun hx => by
    obtain ⟨i, h1, h2⟩ := ex_first hx
    exact ⟨i, (List.getElem?_eq_some_iff.1 h1).1, h1, h2⟩⟩
theorem putI_at : ∀ (l : List Item) (x : Item) (i : Nat), i ≤ l.length → (∀ (j : Nat) (h : j < l.length), j < i → ltI l[j] x = true) → (∀ h : i < l.length, ltI l[i] x = false) → putI l x = l.take i ++ x :: l.drop i
  | [], x, i, hi, _, _ => by
    have : i = 0 := by simpa using hi
    subst this; rfl
  | y :: r, x, 0, _, _, h => by
    have := h (by simp)
    rw [putI, if_neg (by simpa using this)]; rfl
  | y :: r, x, i + 1, hi, h1, h2 => by
    have h0 := h1 0 (by simp) (by omega)
    rw [putI, if_pos (by simpa using h0), putI_at r x i (by simpa using hi) (fun j hj hji => h1 (j + 1) (by simpa using hj) (by omega)) (fun h => h2 (by simpa using h))]
    rfl
end Go.Bv
namespace Go.Bv
set_option linter.unusedSimpArgs false
set_option linter.unusedVariables false
set_option maxHeartbeats 4000000
set_option maxRecDepth 20000
open Go Go.Proofs
theorem bytesLess_lt : ∀ (x y : List UInt8), Op.bytesLess x y = decide (ltS x y)
  | x, [] => by cases x <;> simp [Op.bytesLess, ltS]
  | [], b :: y => by simp [Op.bytesLess, ltS]
  | a :: x, b :: y => by
    rw [Op.bytesLess, bytesLess_lt x y, Bool.eq_iff_iff]
    have e : ltS (a :: x) (b :: y) ↔ a < b ∨ a = b ∧ ltS x y := List.cons_lt_cons_iff
    simp only [Bool.or_eq_true, Bool.and_eq_true, decide_eq_true_eq, beq_iff_eq, e]
def cmpS (a b : List UInt8) : Int := if ltS a b then -1 else if ltS b a then 1 else 0
theorem isNaNS_walk (a : List UInt8) : ACalls Try.prog Nm.cmp_isNaN_string [.str a] [] (.bool false) [] := by
  refine ACalls_of tab (dr_snd tab mixed) Nm.cmp_isNaN_string_h rfl (by kernel_rfl) (Nat.le_of_ble_eq_true rfl) rfl ?_
  refine ND.yes (by rfl) ?_
  exact NRet.mk [] rfl ⟨.refl _, rfl⟩
theorem isNaN64_walk (a : Int) : ACalls Try.prog Nm.cmp_isNaN_int64 [i64 a] [] (.bool false) [] := by
  refine ACalls_of tab (dr_snd tab mixed) Nm.cmp_isNaN_int64_h rfl (by kernel_rfl) (Nat.le_of_ble_eq_true rfl) rfl ?_
  refine ND.yes (by omega) ?_
  exact NRet.mk [] rfl ⟨.refl _, rfl⟩
theorem compare64_walk (a b : Int) : ACalls Try.prog Nm.cmp_Compare_int64 [i64 a, i64 b] [] (i64 (cmpI a b)) [] := by
  refine ACalls_of tab (dr_snd tab mixed) Nm.cmp_Compare_int64_h rfl (by kernel_rfl) (Nat.le_of_ble_eq_true rfl) rfl ?_
  have h1 := isNaN64_walk a
  have h2 := isNaN64_walk b
  rw [cmpI]
  refine NCall.call (h1) rfl rfl ?_
  refine NCall.call (h2) rfl rfl ?_
  refine NB.dec (fun hk1 => ?_) (fun hk1 => ?_)
  · refine NRet.intE ?_ (NRet.mk [] rfl ⟨.refl _, rfl⟩)
    omega
  refine NB.dec (fun hk2 => ?_) (fun hk2 => ?_)
  · refine NRet.intE ?_ (NRet.mk [] rfl ⟨.refl _, rfl⟩)
    omega
  refine NRet.intE ?_ (NRet.mk [] rfl ⟨.refl _, rfl⟩)
  omega
theorem compareS_walk (a b : List UInt8) : ACalls Try.prog Nm.cmp_Compare_string [.str a, .str b] [] (i64 (cmpS a b)) [] := by
  refine ACalls_of tab (dr_snd tab mixed) Nm.cmp_Compare_string_h rfl (by kernel_rfl) (Nat.le_of_ble_eq_true rfl) rfl ?_
  have h1 := isNaNS_walk a
  have h2 := isNaNS_walk b
  rw [cmpS]
  by_cases h : ltS a b
  · have e1 : Op.bytesLess a b = true := by rw [bytesLess_lt, decide_eq_true h]
    rw [if_pos h]
    refine NCall.call (h1) rfl rfl ?_
    refine NCall.call (h2) rfl rfl ?_
    refine ND.yes (by simp [*]) ?_
    exact NRet.mk [] rfl ⟨.refl _, rfl⟩
  · have e1 : ¬ (Op.bytesLess a b = true) := by rw [bytesLess_lt, decide_eq_false h]; simp
    rw [if_neg h]
    by_cases k : ltS b a
    · have hne : a ≠ b := fun e => ltS_irrefl b (by rw [e] at k; exact k)
      have e2 : ¬ ((Op.bytesLess a b || decide (a = b)) = true) := by rw [bytesLess_lt, decide_eq_false h, decide_eq_false hne]; simp
      rw [if_pos k]
      refine NCall.call (h1) rfl rfl ?_
      refine NCall.call (h2) rfl rfl ?_
      refine ND.no (by simp [*]) ?_
      refine ND.no (by simp [*]) ?_
      exact NRet.mk [] rfl ⟨.refl _, rfl⟩
    · have he : a = b := by
        rcases ltS_tri a b with h' | h' | h'
        · exact absurd h' h
        · exact h'
        · exact absurd h' k
      have e2 : (Op.bytesLess a b || decide (a = b)) = true := by rw [decide_eq_true he]; simp
      rw [if_neg k]
      refine NCall.call (h1) rfl rfl ?_
      refine NCall.call (h2) rfl rfl ?_
      refine ND.no (by assumption) ?_
      refine ND.yes (by simp [*]) ?_
      exact NRet.mk [] rfl ⟨.refl _, rfl⟩
def cmpIt (a b : Item) : Int := orI [cmpS a.key b.key, cmpS a.field b.field, cmpI a.kind b.kind, cmpI a.dot.node b.dot.node, cmpI a.dot.seq b.dot.seq, cmpI a.dot.at' b.dot.at', cmpS a.elem b.elem, cmpI a.n b.n]
theorem item_compare_walk (a b : Item) : ACalls Try.prog Nm.item_compare [itemA a, itemA b] [] (i64 (cmpIt a b)) [] := by
  refine ACalls_of tab (dr_snd tab mixed) Nm.item_compare_h rfl (by kernel_rfl) (Nat.le_of_ble_eq_true rfl) rfl ?_
  refine NP.mk (by kernel_rfl) ?_
  apply NDr.rd [0]
  · intro fH TH
    exact ⟨rfl, rfl⟩
  apply NDr.rd [0]
  · intro fH TH
    exact ⟨rfl, rfl⟩
  apply NDr.rd [1]
  · intro fH TH
    exact ⟨rfl, rfl⟩
  apply NDr.rd [1]
  · intro fH TH
    exact ⟨rfl, rfl⟩
  apply NDr.pure
  · refine NCall.call (compareS_walk a.key b.key) rfl rfl ?_
    exact ⟨rfl, rfl⟩
  apply NDr.rd [0]
  · intro fH TH
    exact ⟨rfl, rfl⟩
  apply NDr.rd [0]
  · intro fH TH
    exact ⟨rfl, rfl⟩
  apply NDr.rd [1]
  · intro fH TH
    exact ⟨rfl, rfl⟩
  apply NDr.rd [1]
  · intro fH TH
    exact ⟨rfl, rfl⟩
  apply NDr.pure
  · refine NCall.call (compareS_walk a.field b.field) rfl rfl ?_
    exact ⟨rfl, rfl⟩
  apply NDr.rd [0]
  · intro fH TH
    exact ⟨rfl, rfl⟩
  apply NDr.rd [0]
  · intro fH TH
    exact ⟨rfl, rfl⟩
  apply NDr.rd [1]
  · intro fH TH
    exact ⟨rfl, rfl⟩
  apply NDr.rd [1]
  · intro fH TH
    exact ⟨rfl, rfl⟩
  apply NDr.pure
  · refine NCall.call (compare_walk a.kind b.kind) rfl rfl ?_
    exact ⟨rfl, rfl⟩
  apply NDr.rd [0]
  · intro fH TH
    exact ⟨rfl, rfl⟩
  apply NDr.rd [0]
  · intro fH TH
    exact ⟨rfl, rfl⟩
  apply NDr.rd [0]
  · intro fH TH
    exact ⟨rfl, rfl⟩
  apply NDr.rd [1]
  · intro fH TH
    exact ⟨rfl, rfl⟩
  apply NDr.rd [1]
  · intro fH TH
    exact ⟨rfl, rfl⟩
  apply NDr.rd [1]
  · intro fH TH
    exact ⟨rfl, rfl⟩
  apply NDr.pure
  · refine NCall.call (compare_walk a.dot.node b.dot.node) rfl rfl ?_
    exact ⟨rfl, rfl⟩
  apply NDr.rd [0]
  · intro fH TH
    exact ⟨rfl, rfl⟩
  apply NDr.rd [0]
  · intro fH TH
    exact ⟨rfl, rfl⟩
  apply NDr.rd [0]
  · intro fH TH
    exact ⟨rfl, rfl⟩
  apply NDr.rd [1]
  · intro fH TH
    exact ⟨rfl, rfl⟩
  apply NDr.rd [1]
  · intro fH TH
    exact ⟨rfl, rfl⟩
  apply NDr.rd [1]
  · intro fH TH
    exact ⟨rfl, rfl⟩
  apply NDr.pure
  · refine NCall.call (compare_walk a.dot.seq b.dot.seq) rfl rfl ?_
    exact ⟨rfl, rfl⟩
  apply NDr.rd [0]
  · intro fH TH
    exact ⟨rfl, rfl⟩
  apply NDr.rd [0]
  · intro fH TH
    exact ⟨rfl, rfl⟩
  apply NDr.rd [0]
  · intro fH TH
    exact ⟨rfl, rfl⟩
  apply NDr.rd [1]
  · intro fH TH
    exact ⟨rfl, rfl⟩
  apply NDr.rd [1]
  · intro fH TH
    exact ⟨rfl, rfl⟩
  apply NDr.rd [1]
  · intro fH TH
    exact ⟨rfl, rfl⟩
  apply NDr.pure
  · refine NCall.call (compare_walk a.dot.at' b.dot.at') rfl rfl ?_
    exact ⟨rfl, rfl⟩
  apply NDr.rd [0]
  · intro fH TH
    exact ⟨rfl, rfl⟩
  apply NDr.rd [0]
  · intro fH TH
    exact ⟨rfl, rfl⟩
  apply NDr.rd [1]
  · intro fH TH
    exact ⟨rfl, rfl⟩
  apply NDr.rd [1]
  · intro fH TH
    exact ⟨rfl, rfl⟩
  apply NDr.pure
  · refine NCall.call (compareS_walk a.elem b.elem) rfl rfl ?_
    exact ⟨rfl, rfl⟩
  apply NDr.rd [0]
  · intro fH TH
    exact ⟨rfl, rfl⟩
  apply NDr.rd [0]
  · intro fH TH
    exact ⟨rfl, rfl⟩
  apply NDr.rd [1]
  · intro fH TH
    exact ⟨rfl, rfl⟩
  apply NDr.rd [1]
  · intro fH TH
    exact ⟨rfl, rfl⟩
  apply NDr.pure
  · refine NCall.call (compare64_walk a.n b.n) rfl rfl ?_
    exact ⟨rfl, rfl⟩
  apply NDr.pure
  · exact ⟨rfl, rfl⟩
  apply NDr.pure
  · refine NCall.call (or_walk [cmpS a.key b.key, cmpS a.field b.field, cmpI a.kind b.kind, cmpI a.dot.node b.dot.node, cmpI a.dot.seq b.dot.seq, cmpI a.dot.at' b.dot.at', cmpS a.elem b.elem, cmpI a.n b.n] (by simp)) rfl rfl ?_
    exact ⟨rfl, rfl⟩
  apply NDr.pure
  · exact ⟨rfl, rfl⟩
  refine NP.mk (by kernel_rfl) ?_
  exact NRet.mk [] rfl ⟨.refl _, rfl⟩
theorem orI_lt (c : Int) (r : List Int) : orI (c :: r) < 0 ↔ c < 0 ∨ c = 0 ∧ orI r < 0 := by
  rw [orI_cons]
  split <;> omega
theorem cmpI_lt (a b : Int) : cmpI a b < 0 ↔ ltZ a b := by
  unfold cmpI ltZ
  split
  · omega
  · split <;> omega
theorem cmpI_eq (a b : Int) : cmpI a b = 0 ↔ a = b := by
  unfold cmpI
  split
  · omega
  · split <;> omega
theorem cmpS_lt (a b : List UInt8) : cmpS a b < 0 ↔ ltS a b := by
  unfold cmpS
  by_cases h : ltS a b
  · simp [h]
  · by_cases k : ltS b a <;> simp [h, k]
theorem cmpS_eq (a b : List UInt8) : cmpS a b = 0 ↔ a = b := by
  unfold cmpS
  by_cases h : ltS a b
  · rw [if_pos h]
    exact ⟨fun h => by omega, fun e => by rw [e] at h; exact absurd h (ltS_irrefl b)⟩
  · rw [if_neg h]
    by_cases k : ltS b a
    · rw [if_pos k]
      exact ⟨fun h => by omega, fun e => by rw [e] at k; exact absurd k (ltS_irrefl b)⟩
    · rw [if_neg k]
      refine ⟨fun _ => ?_, fun _ => rfl⟩
      rcases ltS_tri a b with h' | h' | h'
      · exact absurd h' h
      · exact h'
      · exact absurd h' k
theorem cmpIt_lt (a b : Item) : cmpIt a b < 0 ↔ ILt a b := by
  unfold cmpIt
  simp only [orI_lt, cmpI_lt, cmpI_eq, cmpS_lt, cmpS_eq]
  unfold ILt lexR ltN
  simp [orI]
end Go.Bv
namespace Go.Bv
open Go Go.Proofs
theorem NG.map0N {α : Type} {f : α → AV} {l : List α} {j : Nat} {next : AV → Prop} (h : j < l.length) (hn : next (f l[j])) : NG (l.map f) (0 + Int.toNat (j : Int)) next := NG.mapE (Nat.zero_add j) h hn
end Go.Bv
namespace Go.Bv
set_option linter.unusedSimpArgs false
set_option linter.unusedVariables false
set_option maxHeartbeats 4000000
set_option maxRecDepth 20000
open Go Go.Proofs
open Go.Sort (swp insInner insOuter insertionSort)
theorem ltI_iff {x y : Item} : ltI x y = true ↔ cmpIt x y < 0 := by unfold ltI; rw [decide_eq_true_eq, cmpIt_lt]
theorem getA {l : List Item} {i : Nat} (h : i < l.length) : l.toArray[i]! = l[i] := by simp [h]
/-- Two places change. -/
def swpL (l : List Item) (i j : Nat) (hi : i < l.length) (hj : j < l.length) : List Item := (l.set i l[j]).set j l[i]
theorem swpL_len {l : List Item} {i j : Nat} (hi : i < l.length) (hj : j < l.length) : (swpL l i j hi hj).length = l.length := by simp [swpL]
theorem swpL_eq {l : List Item} {i j : Nat} (hi : i < l.length) (hj : j < l.length) : swp l.toArray i j = (swpL l i j hi hj).toArray := by
  unfold swp swpL
  rw [getA hi, getA hj]
  simp
theorem swpL_row {l : List Item} {i j : Nat} (hi : i < l.length) (hj : j < l.length) : ((l.map itemA).set i (itemA l[j])).set j (itemA l[i]) = (swpL l i j hi hj).map itemA := by
  unfold swpL
  rw [List.map_set, List.map_set]
theorem insInner_stop {a j : Nat} {d : Array Item} (h : ¬ a < j ∨ ∃ k, j = k + 1 ∧ ltI d[k + 1]! d[k]! = false) : insInner ltI a j d = d := by
  cases j with
  | zero => rfl
  | succ k =>
    rw [insInner, if_neg]
    rcases h with h | ⟨k', h1, h2⟩
    · simp; omega
    · obtain rfl : k' = k := by omega
      simp [h2]
theorem insInner_go {a k : Nat} {d : Array Item} (h : a < k + 1) (hl : ltI d[k + 1]! d[k]! = true) : insInner ltI a (k + 1) d = insInner ltI a k (swp d (k + 1) k) := by
  rw [insInner, if_pos (by simp [hl]; omega)]
theorem insertion_walk (l : List Item) (a b : Nat) (hb : b ≤ l.length) (ha : a ≤ l.length) (hl : l.length ≤ 2 ^ 40) : ACalls Try.prog Nm.slices_insertionSortCmpFunc_api_Item [.own 0 0 l.length, i64 a, i64 b, .fn Nm.item_compare []]
    [.row .vrow (.agg 8) (l.map itemA)] (.tup []) [.row .vrow (.agg 8) ((insertionSort ltI l.toArray a b).toList.map itemA)] := by
  refine ACalls_of tab (dr_snd tab mixed) Nm.slices_insertionSortCmpFunc_api_Item_h rfl (by kernel_rfl) (Nat.le_of_ble_eq_true rfl) rfl ?_
  refine NW.i64 (by omega) (by omega) ?_
  refine NLoop.mk [] [0, 1, 2, 3, 8] (fun m vs H => ∃ (i : Nat) (d : List Item), a + 1 ≤ i ∧ m = b - i ∧ d.length = l.length ∧ insOuter ltI a b i d.toArray = insertionSort ltI l.toArray a b ∧ H = [.row .vrow (.agg 8) (d.map itemA)] ∧
    vs = [.own 0 0 l.length, i64 a, i64 b, .fn Nm.item_compare [], i64 i]) rfl ?_ ?_
  · exact Canon.mk [] rfl ⟨b - (a + 1), a + 1, l, by omega, rfl, rfl, rfl, rfl, rfl⟩
  rintro m vs H ⟨i, d, hai, rfl, hdl, he, rfl, rfl⟩
  by_cases hib : i < b
  · refine ND.yes (by omega) ?_
    refine NLoop.mk [] [0, 1, 2, 3, 8, 9] (fun m vs H => ∃ (j : Nat) (e : List Item), j ≤ i ∧ j = m ∧ e.length = l.length ∧ insInner ltI a j e.toArray = insInner ltI a i d.toArray ∧ H = [.row .vrow (.agg 8) (e.map itemA)] ∧
      vs = [.own 0 0 l.length, i64 a, i64 b, .fn Nm.item_compare [], i64 i, i64 j]) rfl ?_ ?_
    · exact Canon.mk [] rfl ⟨i, i, d, Nat.le_refl _, rfl, hdl, rfl, rfl, rfl⟩
    rintro m vs H ⟨j, e, hji, rfl, hel, hee, rfl, rfl⟩
    by_cases hja : a < j
    · obtain ⟨k, rfl⟩ : ∃ k, j = k + 1 := ⟨j - 1, by omega⟩
      have h1 : k + 1 < e.length := by omega
      have h0 : k < e.length := by omega
      have hc := item_compare_walk e[k + 1] e[k]
      have ek : Int.toNat (((k + 1 : Nat) : Int) - 1) = k := by omega
      have g1 := getA h1
      have g0 := getA h0
      cases hlt : ltI e[k + 1] e[k] with
      | true =>
        have hlt' := ltI_iff.1 hlt
        refine NP.mk (by kernel_rfl) ?_
        apply NDr.pure
        · exact ⟨rfl, rfl⟩
        apply NDr.pure
        · exact ⟨rfl, rfl⟩
        apply NDr.pure
        · refine ND.yes (by omega) ?_
          exact ⟨rfl, rfl⟩
        apply NDr.pure
        · exact ⟨rfl, rfl⟩
        apply NDr.pure
        · exact ⟨rfl, rfl⟩
        apply NDr.any
        · intro H'
          exact ⟨rfl, rfl⟩
        apply NDr.pure
        · exact ⟨rfl, rfl⟩
        apply NDr.rd [0]
        · intro fH TH
          refine NP.mk (by (simp only [List.length_map, List.length_append, List.length_replicate, List.length_cons, List.length_nil, List.length_take, List.length_drop]; omega)) ?_
          exact ⟨rfl, rfl⟩
        apply NDr.rd [0]
        · intro fH TH
          refine NG.map0N (by omega) ?_
          exact ⟨rfl, rfl⟩
        apply NDr.any
        · intro H'
          exact ⟨rfl, rfl⟩
        apply NDr.pure
        · exact ⟨rfl, rfl⟩
        apply NDr.pure
        · refine NW.i64 (by omega) (by omega) ?_
          exact ⟨rfl, rfl⟩
        apply NDr.rd [0]
        · intro fH TH
          refine NP.mk (by (simp only [List.length_map, List.length_append, List.length_replicate, List.length_cons, List.length_nil, List.length_take, List.length_drop]; omega)) ?_
          rw [(ek)]
          exact ⟨rfl, rfl⟩
        apply NDr.rd [0]
        · intro fH TH
          refine NG.map0N (by omega) ?_
          exact ⟨rfl, rfl⟩
        apply NDr.pure
        · refine NCall.call (hc) rfl rfl ?_
          exact ⟨rfl, rfl⟩
        apply NDr.pure
        · refine ND.yes (by omega) ?_
          exact ⟨rfl, rfl⟩
        apply NDr.pure
        · exact ⟨rfl, rfl⟩
        refine NP.mk (by kernel_rfl) ?_
        refine NP.mk (by kernel_rfl) ?_
        apply NDr.any
        · intro H'
          exact ⟨rfl, rfl⟩
        apply NDr.pure
        · exact ⟨rfl, rfl⟩
        apply NDr.any
        · intro H'
          exact ⟨rfl, rfl⟩
        apply NDr.pure
        · exact ⟨rfl, rfl⟩
        apply NDr.pure
        · refine NW.i64 (by omega) (by omega) ?_
          exact ⟨rfl, rfl⟩
        apply NDr.any
        · intro H'
          exact ⟨rfl, rfl⟩
        apply NDr.pure
        · exact ⟨rfl, rfl⟩
        apply NDr.pure
        · refine NW.i64 (by omega) (by omega) ?_
          exact ⟨rfl, rfl⟩
        apply NDr.rd [0]
        · intro fH TH
          refine NP.mk (by (simp only [List.length_map, List.length_append, List.length_replicate, List.length_cons, List.length_nil, List.length_take, List.length_drop]; omega)) ?_
          rw [(ek)]
          exact ⟨rfl, rfl⟩
        apply NDr.rd [0]
        · intro fH TH
          refine NG.map0N (by omega) ?_
          exact ⟨rfl, rfl⟩
        apply NDr.any
        · intro H'
          exact ⟨rfl, rfl⟩
        apply NDr.pure
        · exact ⟨rfl, rfl⟩
        apply NDr.rd [0]
        · intro fH TH
          refine NP.mk (by (simp only [List.length_map, List.length_append, List.length_replicate, List.length_cons, List.length_nil, List.length_take, List.length_drop]; omega)) ?_
          exact ⟨rfl, rfl⟩
        apply NDr.rd [0]
        · intro fH TH
          refine NG.map0N (by omega) ?_
          exact ⟨rfl, rfl⟩
        apply NDr.rd [0]
        · intro fH TH
          refine NP.mk (by (simp only [List.length_map, List.length_append, List.length_replicate, List.length_cons, List.length_nil, List.length_take, List.length_drop]; omega)) ?_
          exact ⟨rfl, rfl⟩
        apply NDr.efw [0]
        · refine NG.map0N (by omega) ?_
          exact ⟨rfl, rfl⟩
        · repeat (first | exact True.intro | refine ⟨by first | exact rfl | exact True.intro, ?_⟩)
        apply NDr.efw []
        · refine NP.mk (by (simp; omega)) ?_
          rw [(ek)]
          exact ⟨rfl, rfl⟩
        · repeat (first | exact True.intro | refine ⟨by first | exact rfl | exact True.intro, ?_⟩)
        apply NDr.efw [0]
        · refine NG.get (by simp; omega) ?_
          exact ⟨rfl, rfl⟩
        · repeat (first | exact True.intro | refine ⟨by first | exact rfl | exact True.intro, ?_⟩)
        refine NP.mk (by kernel_rfl) ?_
        refine NW.i64 (by omega) (by omega) ?_
        exact Canon.mk [] rfl ⟨k, by omega, k, swpL e (k + 1) k h1 h0, by omega, rfl, (swpL_len h1 h0).trans hel, by rw [← hee, insInner_go hja (by rw [g1, g0, hlt]), swpL_eq h1 h0], by rw [← swpL_row h1 h0, Nat.zero_add, Nat.zero_add]; rfl, by rw [show (((k + 1 : Nat) : Int) - 1) = k by omega]; rfl⟩
      | false =>
        have hlt' : ¬ cmpIt e[k + 1] e[k] < 0 := fun h => by rw [ltI_iff.2 h] at hlt; simp at hlt
        refine NP.mk (by kernel_rfl) ?_
        apply NDr.pure
        · exact ⟨rfl, rfl⟩
        apply NDr.pure
        · exact ⟨rfl, rfl⟩
        apply NDr.pure
        · refine ND.yes (by omega) ?_
          exact ⟨rfl, rfl⟩
        apply NDr.pure
        · exact ⟨rfl, rfl⟩
        apply NDr.pure
        · exact ⟨rfl, rfl⟩
        apply NDr.any
        · intro H'
          exact ⟨rfl, rfl⟩
        apply NDr.pure
        · exact ⟨rfl, rfl⟩
        apply NDr.rd [0]
        · intro fH TH
          refine NP.mk (by (simp only [List.length_map, List.length_append, List.length_replicate, List.length_cons, List.length_nil, List.length_take, List.length_drop]; omega)) ?_
          exact ⟨rfl, rfl⟩
        apply NDr.rd [0]
        · intro fH TH
          refine NG.map0N (by omega) ?_
          exact ⟨rfl, rfl⟩
        apply NDr.any
        · intro H'
          exact ⟨rfl, rfl⟩
        apply NDr.pure
        · exact ⟨rfl, rfl⟩
        apply NDr.pure
        · refine NW.i64 (by omega) (by omega) ?_
          exact ⟨rfl, rfl⟩
        apply NDr.rd [0]
        · intro fH TH
          refine NP.mk (by (simp only [List.length_map, List.length_append, List.length_replicate, List.length_cons, List.length_nil, List.length_take, List.length_drop]; omega)) ?_
          rw [(ek)]
          exact ⟨rfl, rfl⟩
        apply NDr.rd [0]
        · intro fH TH
          refine NG.map0N (by omega) ?_
          exact ⟨rfl, rfl⟩
        apply NDr.pure
        · refine NCall.call (hc) rfl rfl ?_
          exact ⟨rfl, rfl⟩
        apply NDr.pure
        · refine ND.no (by omega) ?_
          exact ⟨rfl, rfl⟩
        apply NDr.pure
        · exact ⟨rfl, rfl⟩
        refine NP.mk (by kernel_rfl) ?_
        refine NW.i64 (by omega) (by omega) ?_
        refine Canon.mk [] rfl ⟨b - (i + 1), by omega, i + 1, e, by omega, rfl, hel, ?_, rfl, rfl⟩
        rw [← he, insOuter.eq_def (i := i), if_pos hib, ← hee, insInner_stop (.inr ⟨k, rfl, by rw [g1, g0, hlt]⟩)]
    · refine NP.mk (by kernel_rfl) ?_
      apply NDr.pure
      · exact ⟨rfl, rfl⟩
      apply NDr.pure
      · exact ⟨rfl, rfl⟩
      apply NDr.pure
      · refine ND.no (by omega) ?_
        exact ⟨rfl, rfl⟩
      apply NDr.pure
      · exact ⟨rfl, rfl⟩
      apply NDr.pure
      · exact ⟨rfl, rfl⟩
      refine NP.mk (by kernel_rfl) ?_
      refine NW.i64 (by omega) (by omega) ?_
      refine Canon.mk [] rfl ⟨b - (i + 1), by omega, i + 1, e, by omega, rfl, hel, ?_, rfl, rfl⟩
      rw [← he, insOuter.eq_def (i := i), if_pos hib, ← hee, insInner_stop (.inl hja)]
  · refine ND.no (by omega) ?_
    refine NRet.mk [] rfl ⟨.refl _, ?_⟩
    rw [← he, insOuter, if_neg hib]
end Go.Bv
