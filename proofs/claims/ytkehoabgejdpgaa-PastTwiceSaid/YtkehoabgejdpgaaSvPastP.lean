/- Part of the lift: an abstract walk of the program's code, proved sound, and what it shows of this program. -/
import Derived.Test.YtkehoabgejdpgaaSvOrdP
import Derived.Test.YtkehoabgejdpgaaSvFormP
namespace Go.Bv
open Go Go.Proofs

-- pasts, plainly
def hasT (v : List Int) (t : Txn) : Bool := hasB v t.node t.seq
def leftB (l : List Txn) (v : List Int) : List Txn := l.filter fun t => !hasT v t
def endP (p : Past) : List Int := nexts (trim p.floor) p.list
def soundP (p : Past) : Bool := decide (trim p.floor = p.floor) && (chain p.floor p.list && p.list.all formed)
def pruneF (p : Past) (to : List Int) : List Int := join p.floor (meet to (endP p))
def pruneP (p : Past) (to : List Int) : Past := ⟨pruneF p to, leftB p.list (pruneF p to)⟩
def keepP (p : Past) (t : Txn) : Nat := if formed t = true then if hasT (endP p) t = true then 8 else if ready (endP p) t = true then if p.list.length < 4096 then 0 else 6 else 9 else 2

theorem formed_okN {t : Txn} (h : formed t = true) : okN t ∧ 1 ≤ t.seq := by
  unfold formed at h
  rw [Bool.and_eq_true] at h
  have := of_decide_eq_true h.1
  exact ⟨⟨this.1, this.2.1, by omega, this.2.2.2.1⟩, this.2.2.1⟩
theorem hasT_iff (v : List Int) (t : Txn) : hasT v t = true ↔ 1 ≤ t.seq ∧ t.seq ≤ vatI v t.node := by
  unfold hasT hasB; rw [decide_eq_true_eq]
theorem hasT_mono {v w : List Int} (h : ∀ i, vat v i ≤ vat w i) {t : Txn} (ht : hasT v t = true) : hasT w t = true := by
  rw [hasT_iff] at ht ⊢
  exact ⟨ht.1, Int.le_trans ht.2 (vatI_mono h _)⟩
theorem hasT_congr {v w : List Int} (h : ∀ i, vat v i = vat w i) (t : Txn) : hasT v t = hasT w t := by
  unfold hasT hasB; rw [vatI_congr h]
theorem endP_congr (p : Past) (i : Nat) : vat (endP p) i = vat (nexts p.floor p.list) i := nexts_congr _ (vat_trim _) i
theorem endP_trim (p : Past) : trim (endP p) = endP p := nexts_trim (trim_trim _)
theorem endP_eq (p : Past) : trim (nexts p.floor p.list) = endP p := by
  rw [← endP_trim]; exact trim_ext _ _ fun i => (endP_congr p i).symm

theorem leftB_cons (t : Txn) (l : List Txn) (v : List Int) : leftB (t :: l) v = if hasT v t then leftB l v else t :: leftB l v := by
  unfold leftB
  rw [List.filter_cons]
  cases h : hasT v t <;> simp
theorem left_chain : ∀ {l : List Txn} {u v x : List Int}, chain u l = true → (∀ t ∈ l, okN t) → (∀ i, vat x i = max (vat v i) (vat u i)) →
    chain x (leftB l v) = true ∧ ∀ i, vat (nexts x (leftB l v)) i = max (vat v i) (vat (nexts u l) i)
  | [], u, v, x, _, _, hx => ⟨rfl, hx⟩
  | t :: r, u, v, x, hc, ho, hx => by
    obtain ⟨h1, h2⟩ := (chain_cons u t r).1 hc
    have hot := ho t (List.mem_cons_self ..)
    have hor := fun y hy => ho y (List.mem_cons_of_mem _ hy)
    obtain ⟨g1, g2, g3⟩ := (ready_iff u t).1 h1
    have e0 : ∀ w, vatI w t.node = vat w t.node.toNat := fun w => by unfold vatI; rw [if_neg (by have := hot.1; omega)]
    rw [e0] at g2
    rw [leftB_cons]
    cases hh : hasT v t with
    | true =>
      rw [if_pos rfl]
      rw [hasT_iff, e0] at hh
      refine left_chain h2 hor fun i => ?_
      rw [hx, vat_next]
      split
      · rename_i hk; obtain ⟨_, rfl⟩ := hk; omega
      · rfl
    | false =>
      rw [if_neg (by simp)]
      have hn : ¬ (1 ≤ t.seq ∧ t.seq ≤ vat v t.node.toNat) := fun h => by
        rw [← e0] at h
        rw [(hasT_iff v t).2 h] at hh; simp at hh
      have hr : ready x t = true := by
        refine (ready_iff x t).2 ⟨g1, ?_, fun i => ?_⟩
        · rw [e0, hx]; omega
        · rw [hx]; have := g3 i; omega
      obtain ⟨k1, k2⟩ := left_chain (v := v) (x := next x t) h2 hor fun i => by
        rw [vat_next, vat_next, hx]
        split
        · rename_i hk; obtain ⟨_, rfl⟩ := hk; omega
        · rfl
      exact ⟨(chain_cons _ _ _).2 ⟨hr, k1⟩, k2⟩
theorem soundP_iff (p : Past) : soundP p = true ↔ trim p.floor = p.floor ∧ chain p.floor p.list = true ∧ ∀ t ∈ p.list, formed t = true := by
  unfold soundP
  rw [Bool.and_eq_true, Bool.and_eq_true, decide_eq_true_eq, List.all_eq_true]
theorem past_keeps {p : Past} {v : List Int} (hs : soundP p = true) (hw : ∀ i, vat p.floor i ≤ vat v i) :
    chain v (leftB p.list v) = true ∧ ∀ i, vat (nexts v (leftB p.list v)) i = vat (join v (endP p)) i := by
  obtain ⟨h1, h2, h3⟩ := (soundP_iff p).1 hs
  obtain ⟨k1, k2⟩ := left_chain (x := v) (v := v) h2 (fun t ht => (formed_okN (h3 t ht)).1) fun i => by have := hw i; omega
  exact ⟨k1, fun i => by rw [k2, vat_join, endP_congr]⟩
theorem floor_le {p : Past} (hs : soundP p = true) (i : Nat) : vat p.floor i ≤ vat (endP p) i := by
  rw [endP_congr]; exact nexts_mono ((soundP_iff p).1 hs).2.1 i
theorem pruneF_vat (p : Past) (to : List Int) (i : Nat) : vat (pruneF p to) i = max (vat p.floor i) (min (vat to i) (vat (endP p) i)) := by
  unfold pruneF; rw [vat_join, vat_meet]
theorem join_trim (a b : List Int) : trim (join a b) = join a b := by unfold join; rw [trim_trim]
theorem prune_sound {p : Past} (to : List Int) (hs : soundP p = true) : soundP (pruneP p to) = true ∧ endP (pruneP p to) = endP p := by
  obtain ⟨h1, h2, h3⟩ := (soundP_iff p).1 hs
  obtain ⟨k1, k2⟩ := left_chain (x := pruneF p to) (v := pruneF p to) h2 (fun t ht => (formed_okN (h3 t ht)).1) fun i => by
    rw [pruneF_vat]; omega
  refine ⟨(soundP_iff _).2 ⟨join_trim _ _, k1, fun t ht => h3 t (List.mem_filter.1 ht).1⟩, ?_⟩
  rw [← endP_trim (pruneP p to), ← endP_trim p]
  refine trim_ext _ _ fun i => ?_
  rw [endP_congr]
  show vat (nexts (pruneF p to) (leftB p.list (pruneF p to))) i = _
  rw [k2, ← endP_congr, pruneF_vat]
  have := floor_le hs i
  omega
theorem left_left {v w : List Int} (h : ∀ i, vat v i ≤ vat w i) (l : List Txn) : leftB (leftB l v) w = leftB l w := by
  unfold leftB
  rw [List.filter_filter]
  refine List.filter_congr fun t _ => ?_
  cases hv : hasT v t with
  | true => rw [hasT_mono h hv]; rfl
  | false => simp
theorem prune_twice {p : Past} (to : List Int) (hs : soundP p = true) : pruneP (pruneP p to) to = pruneP p to := by
  have he := (prune_sound to hs).2
  have hf : pruneF (pruneP p to) to = pruneF p to := by
    show join (pruneF p to) (meet to (endP (pruneP p to))) = _
    rw [he]
    unfold pruneF
    rw [← join_trim (join p.floor _), ← join_trim p.floor]
    exact trim_ext _ _ fun i => by simp only [vat_join, vat_meet, vat_trim]; omega
  unfold pruneP at hf ⊢
  rw [hf, left_left (fun i => Int.le_refl _)]
theorem left_none : ∀ {l : List Txn} {v w : List Int}, chain v l = true → (∀ t ∈ l, okN t) → (∀ i, vat w i ≤ vat v i) → leftB l w = l
  | [], _, _, _, _, _ => rfl
  | t :: r, v, w, h, ho, hw => by
    obtain ⟨h1, h2⟩ := (chain_cons v t r).1 h
    have g := ((ready_iff v t).1 h1).2.1
    have hm := vatI_mono hw t.node
    have : hasT w t = false := by
      cases hh : hasT w t with
      | false => rfl
      | true => have := ((hasT_iff w t).1 hh).2; omega
    rw [leftB_cons, this, if_neg (by simp), left_none h2 (fun x hx => ho x (List.mem_cons_of_mem _ hx)) fun i => Int.le_trans (hw i) (next_mono h1 i)]
theorem prune_nil {p : Past} (hs : soundP p = true) : pruneP p [] = p := by
  obtain ⟨h1, h2, h3⟩ := (soundP_iff p).1 hs
  have hf : pruneF p [] = p.floor := by
    unfold pruneF
    rw [← h1, ← join_trim]
    refine trim_ext _ _ fun i => ?_
    rw [vat_join, vat_meet, vat_nil, vat_trim]
    have := vat_nonneg p.floor i
    have := vat_nonneg (endP p) i
    omega
  unfold pruneP
  rw [hf, left_none h2 (fun t ht => (formed_okN (h3 t ht)).1) fun i => Int.le_refl _]
theorem leftB_snoc (l : List Txn) (t : Txn) (v : List Int) : leftB (l ++ [t]) v = leftB l v ++ if hasT v t then [] else [t] := by
  unfold leftB
  rw [List.filter_append]
  cases h : hasT v t <;> simp [h]
theorem leftB_len (l : List Txn) (v : List Int) : (leftB l v).length ≤ l.length := List.length_filter_le _ _
end Go.Bv
