/- Part of the lift: an abstract walk of the program's code, proved sound, and what it shows of this program. -/
import Derived.Test.YtjgmoglhbdgmpaaGreatPart3
namespace Go.Bv
open Go
def ints (l : List Int) : AV := .list .leaf (l.map i64)
/-- What a vector says of a node. -/
def vat (v : List Int) (i : Nat) : Int := max (v.getD i 0) 0
/-- What a vector says of a node that may be any number. -/
def vatI (v : List Int) (i : Int) : Int := if i < 0 then 0 else vat v i.toNat
def trim : List Int → List Int
 | [] => []
 | x :: r => match trim r with
  | [] => if x ≤ 0 then [] else [x]
  | y :: t => max x 0 :: y :: t
theorem vat_nil (i : Nat) : vat [] i = 0 := by simp [vat]
theorem vat_zero (x : Int) (r : List Int) : vat (x :: r) 0 = max x 0 := by simp [vat]
theorem vat_succ (x : Int) (r : List Int) (i : Nat) : vat (x :: r) (i + 1) = vat r i := by simp [vat]
theorem vat_nonneg (v : List Int) (i : Nat) : 0 ≤ vat v i := by unfold vat; omega
theorem vat_out {v : List Int} {i : Nat} (h : v.length ≤ i) : vat v i = 0 := by simp [vat, List.getD_eq_getElem?_getD, List.getElem?_eq_none h]
theorem vat_in {v : List Int} {i : Nat} (h : i < v.length) : vat v i = max v[i] 0 := by simp [vat, List.getD_eq_getElem?_getD, List.getElem?_eq_getElem h]
theorem vat_trim : ∀ (v : List Int) (i : Nat), vat (trim v) i = vat v i
 | [], i => rfl
 | x :: r, i => by
  have ih := vat_trim r
  rw [trim]
  split
  ·rename_i h
   rw [h] at ih
   split
   ·rename_i hx
    cases i with
    | zero => rw [vat_nil, vat_zero]; omega
    | succ i => rw [vat_nil, vat_succ, ← ih i, vat_nil]
   ·cases i with
    | zero => rw [vat_zero, vat_zero]
    | succ i => rw [vat_succ, vat_succ, ih i]
  ·rename_i y t h
   rw [h] at ih
   cases i with
   | zero => rw [vat_zero, vat_zero]; omega
   | succ i => rw [vat_succ, vat_succ, ih i]
theorem trim_ext : ∀ (a b : List Int), (∀ i, vat a i = vat b i) → trim a = trim b
 | [], [], _ => rfl
 | [], y :: q, h => by
  have h0 := h 0
  rw [vat_nil, vat_zero] at h0
  have ih := trim_ext [] q fun i => by have := h (i + 1); rwa [vat_nil, vat_succ] at this
  rw [trim, trim, ← ih, trim]
  simp only
  rw [if_pos (by omega)]
 | x :: r, [], h => by
  have h0 := h 0
  rw [vat_nil, vat_zero] at h0
  have ih : trim r = [] := trim_ext r [] fun i => by have := h (i + 1); rwa [vat_nil, vat_succ] at this
  simp only [trim, ih, if_pos (show x ≤ 0 by omega)]
 | x :: r, y :: q, h => by
  have h0 := h 0
  rw [vat_zero, vat_zero] at h0
  have ih := trim_ext r q fun i => by have := h (i + 1); rwa [vat_succ, vat_succ] at this
  rw [trim, trim, ih]
  cases trim q with
  | nil => simp only; split <;> split <;> first | rfl | omega | (congr 1; omega)
  | cons z t => simp only [h0]
theorem trim_trim (v : List Int) : trim (trim v) = trim v := trim_ext _ _ (vat_trim v)
theorem trim_len : ∀ v : List Int, (trim v).length ≤ v.length
 | [] => Nat.le_refl _
 | x :: r => by
  have ih := trim_len r
  rw [trim]
  split
  ·split <;> simp
  ·rename_i y t h
   rw [h] at ih
   simp only [List.length_cons] at ih ⊢; omega
theorem vat_snoc (w : List Int) (x : Int) (i : Nat) : vat (w ++ [x]) i = if i = w.length then max x 0 else vat w i := by
 rcases Nat.lt_trichotomy i w.length with h | h | h
 ·rw [if_neg (by omega), vat_in (by simp; omega), vat_in h, List.getElem_append_left h]
 ·subst h; rw [if_pos rfl, vat_in (by simp)]; simp
 ·rw [if_neg (by omega), vat_out (by simp; omega), vat_out (by omega)]
theorem trim_snoc_np (w : List Int) {x : Int} (h : x ≤ 0) : trim (w ++ [x]) = trim w := trim_ext _ _ fun i => by
 rw [vat_snoc]
 split
 ·rename_i hi; rw [hi, vat_out (Nat.le_refl _)]; omega
 ·rfl
theorem trim_snoc_pos : ∀ (w : List Int) {x : Int}, 0 < x → trim (w ++ [x]) = (w ++ [x]).map (max · 0)
 | [], x, h => by
  show (if x ≤ 0 then [] else [x]) = [max x 0]
  rw [if_neg (by omega), show max x 0 = x by omega]
 | y :: w, x, h => by
  have ih := trim_snoc_pos w h
  have hne : (w ++ [x]).map (max · 0) ≠ [] := by simp
  show (match trim (w ++ [x]) with | [] => if y ≤ 0 then [] else [y] | z :: t => max y 0 :: z :: t) = _
  rw [ih]
  cases hq : (w ++ [x]).map (max · 0) with
  | nil => exact absurd hq hne
  | cons z t => simp only [List.cons_append, List.map_cons, hq]
/-- The first i numbers at least 0. -/
def mx (w : List Int) (i : Nat) : List Int := (w.take i).map (max · 0) ++ w.drop i
theorem mx_len (w : List Int) (i : Nat) : (mx w i).length = w.length := by simp [mx]; omega
theorem mx_get (w : List Int) (i j : Nat) : (mx w i)[j]? = if j < i then (w[j]?).map (max · 0) else w[j]? := by
 unfold mx
 rcases Nat.lt_or_ge j (w.take i).length with h | h
 ·rw [List.getElem?_append_left (by simpa using h), List.getElem?_map, List.getElem?_take]
  have : j < i := by simp at h; omega
  simp [this]
 ·rw [List.getElem?_append_right (by simpa using h), List.length_map, List.getElem?_drop]
  simp only [List.length_take] at h ⊢
  split
  ·rw [List.getElem?_eq_none (by omega), List.getElem?_eq_none (by omega)]; rfl
  ·rw [show i + (j - min i w.length) = if i ≤ w.length then j else i + (j - w.length) by split <;> omega]
   split
   ·rfl
   ·rw [List.getElem?_eq_none (by omega), List.getElem?_eq_none (by omega)]
theorem mx_at {w : List Int} {i : Nat} (h : i < w.length) : (mx w i)[i]'(by rw [mx_len]; exact h) = w[i] := by
 have := mx_get w i i
 rw [if_neg (by omega), List.getElem?_eq_getElem h, List.getElem?_eq_getElem (by rw [mx_len]; exact h)] at this
 exact Option.some.inj this
theorem mx_set {w : List Int} {i : Nat} (h : i < w.length) : (mx w i).set i (max w[i] 0) = mx w (i + 1) := by
 apply List.ext_getElem?
 intro j
 rw [List.getElem?_set, mx_get, mx_get, mx_len]
 by_cases hij : i = j
 ·subst hij
  simp [h]
 ·rw [if_neg hij]
  by_cases hj : j < i
  ·rw [if_pos hj, if_pos (by omega)]
  ·rw [if_neg hj, if_neg (by omega)]
theorem mx_zero (w : List Int) : mx w 0 = w := by simp [mx]
theorem mx_full (w : List Int) : mx w w.length = w.map (max · 0) := by simp [mx]
/-- Two vectors, number by number. -/
def both (f : Int → Int → Int) (a b : List Int) : List Int := (List.range (max a.length b.length)).map fun i => f (vat a i) (vat b i)
theorem vat_both {f : Int → Int → Int} (h0 : f 0 0 = 0) (hf : ∀ x y, 0 ≤ x → 0 ≤ y → 0 ≤ f x y) (a b : List Int) (i : Nat) : vat (both f a b) i = f (vat a i) (vat b i) := by
 unfold both
 rcases Nat.lt_or_ge i (max a.length b.length) with h | h
 ·rw [vat_in (by simpa using h)]
  simp only [List.getElem_map, List.getElem_range]
  have := hf _ _ (vat_nonneg a i) (vat_nonneg b i)
  omega
 ·rw [vat_out (by simpa using h), vat_out (by omega), vat_out (by omega), h0]
def join (a b : List Int) : List Int := trim (both max a b)
def meet (a b : List Int) : List Int := trim (both min a b)
theorem vat_join (a b : List Int) (i : Nat) : vat (join a b) i = max (vat a i) (vat b i) := by
 unfold join
 rw [vat_trim, vat_both (by decide) (by intro x y _ _; omega)]
theorem both_len (f : Int → Int → Int) (a b : List Int) : (both f a b).length = max a.length b.length := by simp [both]
theorem join_len (a b : List Int) : (join a b).length ≤ max a.length b.length := by
 have := trim_len (both max a b); rw [both_len] at this; exact this
/-- Is a vector within another one? -/
def vwithin (a b : List Int) : Bool := (List.range a.length).all fun i => decide (vat a i ≤ vat b i)
theorem vwithin_iff (a b : List Int) : vwithin a b = true ↔ ∀ i, vat a i ≤ vat b i := by
 unfold vwithin
 simp only [List.all_eq_true, List.mem_range, decide_eq_true_eq]
 refine ⟨fun h i => ?_, fun h i _ => h i⟩
 rcases Nat.lt_or_ge i a.length with hi | hi
 ·exact h i hi
 ·rw [vat_out hi]; exact vat_nonneg b i
/-- A vector with a number for a node. -/
def vset (v : List Int) (node : Nat) (n : Int) : List Int := (v ++ List.replicate (node + 1 - v.length) 0).set node n
theorem vat_vset (v : List Int) (node : Nat) (n : Int) (hn : 0 ≤ n) (i : Nat) : vat (vset v node n) i = if i = node then n else vat v i := by
 unfold vset
 by_cases h : i = node
 ·subst h
  rw [if_pos rfl, vat_in (by simp; omega), List.getElem_set_self]; omega
 ·rw [if_neg h]
  unfold vat
  congr 1
  rw [List.getD_eq_getElem?_getD, List.getElem?_set_ne (fun e => h e.symm), List.getD_eq_getElem?_getD]
  rcases Nat.lt_or_ge i v.length with hi | hi
  ·rw [List.getElem?_append_left hi]
  ·rw [List.getElem?_append_right hi, List.getElem?_eq_none hi, List.getElem?_replicate]
   split <;> rfl
/-- The first i numbers of two vectors, laid together; noughts behind. -/
def bs (f : Int → Int → Int) (a b : List Int) (i : Nat) : List Int := ((List.range i).map fun k => f (vat a k) (vat b k)) ++ List.replicate (max a.length b.length - i) 0
/-- The numbers of a function of the place. -/
def tab0 (g : Nat → Int) (n : Nat) : List Int := (List.range n).map g
theorem tab0_succ (g : Nat → Int) (n : Nat) : tab0 g (n + 1) = tab0 g n ++ [g n] := by simp [tab0, List.range_succ]
theorem tab0_len (g : Nat → Int) (n : Nat) : (tab0 g n).length = n := by simp [tab0]
theorem vat_tab0 (g : Nat → Int) (n i : Nat) : vat (tab0 g n) i = if i < n then max (g i) 0 else 0 := by
 rcases Nat.lt_or_ge i n with h | h
 ·rw [if_pos h, vat_in (by rw [tab0_len]; exact h)]; simp [tab0]
 ·rw [if_neg (by omega), vat_out (by rw [tab0_len]; exact h)]
theorem trim_range {v : List Int} {n : Nat} (h : ∀ i, n ≤ i → vat v i = 0) (hl : n = 0 ∨ 0 < vat v (n - 1)) : trim v = tab0 (vat v) n := by
 have e : trim v = trim (tab0 (vat v) n) := trim_ext _ _ fun i => by
  rw [vat_tab0]
  have := vat_nonneg v i
  split
  ·omega
  ·exact h i (by omega)
 rw [e]
 rcases hl with rfl | hl
 ·rfl
 ·cases n with
  | zero => rfl
  | succ k =>
   rw [tab0_succ, trim_snoc_pos _ (by simpa using hl), ← tab0_succ]
   have : ∀ x ∈ tab0 (vat v) (k + 1), max x 0 = x := fun x hx => by
    obtain ⟨i, _, rfl⟩ := List.mem_map.1 hx
    have := vat_nonneg v i; omega
   exact (List.map_congr_left this).trans (List.map_id' _)
theorem vatI_nat (v : List Int) (i : Nat) : vatI v i = vat v i := by unfold vatI; rw [if_neg (by omega), Int.toNat_natCast]
end Go.Bv
