/- Part of the lift: an abstract walk of the program's code, proved sound, and what it shows of this program. -/
import Derived.Test.YtkehoabgejdpgaaSvPastP
namespace Go.Bv
open Go Go.Proofs

-- queues, plainly
def gapB (l : List Txn) (t : Txn) : Bool := match l.getLast? with
  | none => false
  | some a => decide (a.node ≠ t.node ∨ a.seq ≠ t.seq - 1)
def pushC (q : Queue) (t : Txn) : Nat := if formed t = true then if gapB q.list t = true then 9 else if (q.list.length : Int) < q.most then 0 else 6 else 2
def pushQ (q : Queue) (t : Txn) : Queue := if pushC q t = 0 then ⟨q.most, q.list ++ [t]⟩ else ⟨0, []⟩
def heardQ (q : Queue) (v : List Int) : Queue := ⟨q.most, leftB q.list v⟩

theorem vatI_join (a b : List Int) (n : Int) : vatI (join a b) n = max (vatI a n) (vatI b n) := by
  unfold vatI
  split
  · rfl
  · rw [vat_join]
theorem leftB_nil (l : List Txn) : leftB l [] = l := by
  unfold leftB
  rw [List.filter_eq_self]
  intro t _
  have : hasT [] t = false := by
    cases h : hasT [] t with
    | false => rfl
    | true =>
      rw [hasT_iff] at h
      have e : vatI [] t.node = 0 := by unfold vatI; split <;> simp [vat_nil]
      omega
  rw [this]; rfl
theorem leftB_join (l : List Txn) (v w : List Int) : leftB (leftB l v) w = leftB l (join v w) := by
  unfold leftB
  rw [List.filter_filter]
  refine List.filter_congr fun t _ => ?_
  have : hasT (join v w) t = (hasT v t || hasT w t) := by
    rw [Bool.eq_iff_iff, Bool.or_eq_true, hasT_iff, hasT_iff, hasT_iff, vatI_join]
    omega
  rw [this, Bool.not_or, Bool.and_comm]
theorem leftB_comm (l : List Txn) (v w : List Int) : leftB (leftB l v) w = leftB (leftB l w) v := by
  unfold leftB
  rw [List.filter_filter, List.filter_filter]
  refine List.filter_congr fun t _ => Bool.and_comm ..
/-- Transactions of one node, one number after the other. -/
def consec (n s : Int) (l : List Txn) : Prop := ∀ (k : Nat) (h : k < l.length), l[k].node = n ∧ l[k].seq = s + k
theorem consec_tail {n s : Int} {t : Txn} {r : List Txn} (h : consec n s (t :: r)) : t.node = n ∧ t.seq = s ∧ consec n (s + 1) r := by
  refine ⟨(h 0 (by simp)).1, by have := (h 0 (by simp)).2; simpa using this, fun k hk => ?_⟩
  have := h (k + 1) (by simpa using hk)
  simp only [List.getElem_cons_succ] at this
  omega
theorem leftB_consec : ∀ {l : List Txn} {n s : Int} {w : List Int}, consec n s l → 1 ≤ s → leftB l w = l.drop (vatI w n - s + 1).toNat
  | [], _, _, _, _, _ => by simp [leftB]
  | t :: r, n, s, w, h, hs => by
    obtain ⟨h1, h2, h3⟩ := consec_tail h
    rw [leftB_cons, leftB_consec h3 (by omega)]
    cases hh : hasT w t with
    | true =>
      rw [if_pos rfl]
      rw [hasT_iff, h1, h2] at hh
      rw [show (vatI w n - s + 1).toNat = (vatI w n - (s + 1) + 1).toNat + 1 by omega, List.drop_succ_cons]
    | false =>
      rw [if_neg (by simp)]
      have : ¬ (1 ≤ t.seq ∧ t.seq ≤ vatI w t.node) := fun h => by rw [(hasT_iff w t).2 h] at hh; simp at hh
      rw [h1, h2] at this
      rw [show (vatI w n - s + 1).toNat = 0 by omega, show (vatI w n - (s + 1) + 1).toNat = 0 by omega]
      rfl
theorem consec_drop {n s : Int} {l : List Txn} (h : consec n s l) (k : Nat) : consec n (s + k) (l.drop k) := fun i hi => by
  have := h (k + i) (by simp at hi; omega)
  rw [List.getElem_drop]
  omega
theorem consec_snoc {n s : Int} {l : List Txn} {t : Txn} (h : consec n s l) (hg : gapB l t = false) : ∃ n s, consec n s (l ++ [t]) := by
  cases hl : l.getLast? with
  | none =>
    have : l = [] := List.getLast?_eq_none_iff.1 hl
    subst this
    refine ⟨t.node, t.seq, fun k hk => ?_⟩
    have : k = 0 := by simpa using hk
    subst this
    simp
  | some a =>
    unfold gapB at hg
    rw [hl] at hg
    simp only [decide_eq_false_iff_not] at hg
    refine ⟨n, s, fun k hk => ?_⟩
    have hne : l ≠ [] := fun e => by rw [e] at hl; simp at hl
    have hlen : 0 < l.length := List.length_pos_iff.2 hne
    have ha : l[l.length - 1] = a := by
      rw [List.getLast?_eq_getElem?, List.getElem?_eq_getElem (by omega)] at hl
      exact Option.some.inj hl
    have h1 := h (l.length - 1) (by omega)
    rw [ha] at h1
    by_cases hk' : k < l.length
    · rw [List.getElem_append_left hk']; exact h k hk'
    · have e : k = l.length := by simp at hk; omega
      subst e
      rw [List.getElem_append_right (Nat.le_refl _)]
      simp only [Nat.sub_self, List.getElem_cons_zero]
      omega
end Go.Bv
