/- Part of the lift: an abstract walk of the program's code, proved sound, and what it shows of this program. -/
import Derived.Test.YtkehoabgejdpgaaSvOrd
namespace Go.Bv
open Go Go.Proofs

-- what is taken, plainly
/-- May a transaction's number stand in a vector? -/
def okN (t : Txn) : Prop := 0 ≤ t.node ∧ t.node < 8 ∧ 0 ≤ t.seq ∧ t.seq ≤ 1073741824
instance (t : Txn) : Decidable (okN t) := by unfold okN; infer_instance
def takeN : Nat → List Int → List Txn → List Txn × List Int
  | 0, v, _ => ([], v)
  | n + 1, v, l => match l.find? (ready v) with
    | none => ([], v)
    | some t => (t :: (takeN n (next v t) (l.eraseP (ready v))).1, (takeN n (next v t) (l.eraseP (ready v))).2)
def takeT (v : List Int) (l : List Txn) : List Txn × List Int := takeN l.length v l
def chain : List Int → List Txn → Bool
  | _, [] => true
  | v, t :: r => ready v t && chain (next v t) r
def nexts (v : List Int) (l : List Txn) : List Int := l.foldl next v
def dotOf (t : Txn) : Int × Int := (t.node, t.seq)
def twice (l : List Txn) : Bool := !decide (l.map dotOf).Nodup

theorem ready_iff (v : List Int) (t : Txn) : ready v t = true ↔ 1 ≤ t.seq ∧ t.seq - 1 = vatI v t.node ∧ ∀ i, vat t.deps i ≤ vat v i := by
  unfold ready
  rw [Bool.and_eq_true, Bool.and_eq_true, decide_eq_true_eq, decide_eq_true_eq, vwithin_iff]
theorem vatI_congr {v w : List Int} (h : ∀ i, vat v i = vat w i) (n : Int) : vatI v n = vatI w n := by
  unfold vatI; split
  · rfl
  · exact h _
theorem ready_congr {v w : List Int} (h : ∀ i, vat v i = vat w i) (t : Txn) : ready v t = ready w t := by
  rw [Bool.eq_iff_iff, ready_iff, ready_iff, vatI_congr h]
  simp only [h]
theorem next_ok {v : List Int} {t : Txn} (h : okN t) : next v t = trim (vset v t.node.toNat t.seq) := by
  unfold okN at h; unfold next; rw [if_pos h]
theorem next_bad {v : List Int} {t : Txn} (h : ¬ okN t) : next v t = trim v := by
  unfold okN at h; unfold next; rw [if_neg h]
theorem vat_next (v : List Int) (t : Txn) (i : Nat) : vat (next v t) i = if okN t ∧ i = t.node.toNat then t.seq else vat v i := by
  by_cases h : okN t
  · rw [next_ok h, vat_trim, vat_vset _ _ _ h.2.2.1]
    simp [h]
  · rw [next_bad h, vat_trim]
    simp [h]
theorem next_congr {v w : List Int} (h : ∀ i, vat v i = vat w i) (t : Txn) : next v t = next w t := by
  by_cases ho : okN t
  · rw [next_ok ho, next_ok ho]
    exact trim_ext _ _ fun i => by rw [vat_vset _ _ _ ho.2.2.1, vat_vset _ _ _ ho.2.2.1, h]
  · rw [next_bad ho, next_bad ho]
    exact trim_ext _ _ h
theorem next_trim (v : List Int) (t : Txn) : next (trim v) t = next v t := next_congr (vat_trim v) t
theorem trim_next (v : List Int) (t : Txn) : trim (next v t) = next v t := by
  by_cases ho : okN t
  · rw [next_ok ho, trim_trim]
  · rw [next_bad ho, trim_trim]
theorem next_mono {v : List Int} {t : Txn} (h : ready v t = true) (i : Nat) : vat v i ≤ vat (next v t) i := by
  rw [vat_next]
  split
  · rename_i hc
    obtain ⟨ho, rfl⟩ := hc
    have := ((ready_iff v t).1 h).2.1
    unfold vatI at this
    rw [if_neg (by have := ho.1; omega)] at this
    omega
  · exact Int.le_refl _
theorem vatI_mono {v w : List Int} (h : ∀ i, vat v i ≤ vat w i) (n : Int) : vatI v n ≤ vatI w n := by
  unfold vatI; split
  · exact Int.le_refl _
  · exact h _
theorem nexts_nil (v : List Int) : nexts v [] = v := rfl
theorem nexts_cons (v : List Int) (t : Txn) (r : List Txn) : nexts v (t :: r) = nexts (next v t) r := rfl
theorem nexts_snoc (v : List Int) (l : List Txn) (t : Txn) : nexts v (l ++ [t]) = next (nexts v l) t := by simp [nexts]
theorem chain_cons (v : List Int) (t : Txn) (r : List Txn) : chain v (t :: r) = true ↔ ready v t = true ∧ chain (next v t) r = true := by
  show (ready v t && chain (next v t) r) = true ↔ _
  rw [Bool.and_eq_true]
theorem nexts_mono : ∀ {l : List Txn} {v : List Int}, chain v l = true → ∀ i, vat v i ≤ vat (nexts v l) i
  | [], _, _, _ => Int.le_refl _
  | t :: r, v, h, i => by
    obtain ⟨h1, h2⟩ := (chain_cons v t r).1 h
    exact Int.le_trans (next_mono h1 i) (nexts_mono h2 i)
theorem nexts_congr : ∀ (l : List Txn) {v w : List Int}, (∀ i, vat v i = vat w i) → ∀ i, vat (nexts v l) i = vat (nexts w l) i
  | [], _, _, h, i => h i
  | t :: r, v, w, h, i => by rw [nexts_cons, nexts_cons, next_congr h]
theorem nexts_trim : ∀ {l : List Txn} {v : List Int}, trim v = v → trim (nexts v l) = nexts v l
  | [], _, h => h
  | t :: r, v, _ => by rw [nexts_cons]; exact nexts_trim (trim_next v t)
theorem chain_congr : ∀ (l : List Txn) {v w : List Int}, (∀ i, vat v i = vat w i) → chain v l = chain w l
  | [], _, _, _ => rfl
  | t :: r, v, w, h => by
    show (ready v t && chain (next v t) r) = (ready w t && chain (next w t) r)
    rw [ready_congr h, next_congr h]

theorem takeN_chain : ∀ (n : Nat) (v : List Int) (l : List Txn), chain v (takeN n v l).1 = true ∧ (takeN n v l).2 = nexts v (takeN n v l).1
  | 0, _, _ => ⟨rfl, rfl⟩
  | n + 1, v, l => by
    unfold takeN
    split
    · exact ⟨rfl, rfl⟩
    · rename_i t ht
      obtain ⟨h1, h2⟩ := takeN_chain n (next v t) (l.eraseP (ready v))
      exact ⟨(chain_cons _ _ _).2 ⟨List.find?_some ht, h1⟩, h2⟩
theorem erase_perm {p : Txn → Bool} : ∀ {l : List Txn} {t : Txn}, l.find? p = some t → l.Perm (t :: l.eraseP p)
  | [], _, h => by simp at h
  | x :: r, t, h => by
    rw [List.find?_cons] at h
    rw [List.eraseP_cons]
    cases hx : p x with
    | true =>
      rw [hx] at h
      simp only [Option.some.injEq] at h
      subst h
      exact .refl _
    | false =>
      rw [hx] at h
      exact ((erase_perm h).cons x).trans (.swap ..)
theorem takeN_rest : ∀ (n : Nat) (v : List Int) (l : List Txn), l.length ≤ n → ∃ r, l.Perm ((takeN n v l).1 ++ r) ∧ ∀ t ∈ r, ready (takeN n v l).2 t = false
  | 0, v, l, h => by
    have : l = [] := List.length_eq_zero_iff.1 (by omega)
    subst this
    exact ⟨[], .refl _, by simp⟩
  | n + 1, v, l, h => by
    unfold takeN
    split
    · rename_i hn
      exact ⟨l, .refl _, fun t ht => by simpa using List.find?_eq_none.1 hn t ht⟩
    · rename_i t ht
      have hp := erase_perm ht
      obtain ⟨r, h1, h2⟩ := takeN_rest n (next v t) (l.eraseP (ready v)) (by
        have := hp.length_eq; simp only [List.length_cons] at this; omega)
      exact ⟨r, hp.trans (h1.cons t), h2⟩
theorem takeT_chain (v : List Int) (l : List Txn) : chain v (takeT v l).1 = true := (takeN_chain _ v l).1
theorem takeT_nexts (v : List Int) (l : List Txn) : (takeT v l).2 = nexts v (takeT v l).1 := (takeN_chain _ v l).2
theorem takeT_rest (v : List Int) (l : List Txn) : ∃ r, l.Perm ((takeT v l).1 ++ r) ∧ ∀ t ∈ r, ready (takeT v l).2 t = false := takeN_rest _ v l (Nat.le_refl _)
theorem takeT_mem {v : List Int} {l : List Txn} {t : Txn} (h : t ∈ (takeT v l).1) : t ∈ l := by
  obtain ⟨r, hp, _⟩ := takeT_rest v l
  exact hp.mem_iff.2 (List.mem_append_left _ h)
theorem takeT_len (v : List Int) (l : List Txn) : (takeT v l).1.length ≤ l.length := by
  obtain ⟨r, hp, _⟩ := takeT_rest v l
  have := hp.length_eq; simp only [List.length_append] at this; omega
theorem takeN_of_chain : ∀ (a : List Txn) (v : List Int), chain v a = true → takeN a.length v a = (a, nexts v a)
  | [], _, _ => rfl
  | t :: r, v, h => by
    obtain ⟨h1, h2⟩ := (chain_cons v t r).1 h
    show takeN (r.length + 1) v (t :: r) = _
    unfold takeN
    rw [List.find?_cons, h1]
    simp only
    rw [List.eraseP_cons, h1]
    simp only [cond_true]
    rw [takeN_of_chain r _ h2]
    rfl
theorem takeT_of_chain {v : List Int} {a : List Txn} (h : chain v a = true) : takeT v a = (a, nexts v a) := takeN_of_chain a v h
theorem takeT_none {v : List Int} {l : List Txn} (h : ∀ t ∈ l, ready v t = false) : takeT v l = ([], v) := by
  unfold takeT
  cases l with
  | nil => rfl
  | cons t r =>
    show takeN (r.length + 1) v (t :: r) = _
    unfold takeN
    rw [List.find?_eq_none.2 (fun x hx => by simp [h x hx])]

/-- Each number up to what is heard is one's who was taken. -/
theorem chain_every : ∀ {b : List Txn} {v : List Int}, chain v b = true → ∀ (i : Nat) (s : Int), vat v i < s → s ≤ vat (nexts v b) i → ∃ t ∈ b, t.node = i ∧ t.seq = s
  | [], v, _, i, s, h1, h2 => by rw [nexts_nil] at h2; omega
  | t :: r, v, h, i, s, h1, h2 => by
    obtain ⟨hr, hc⟩ := (chain_cons v t r).1 h
    rcases Int.lt_or_le (vat (next v t) i) s with hs | hs
    · obtain ⟨x, hx, e⟩ := chain_every hc i s hs h2
      exact ⟨x, List.mem_cons_of_mem _ hx, e⟩
    · refine ⟨t, List.mem_cons_self .., ?_⟩
      rw [vat_next] at hs
      split at hs
      · rename_i hk
        obtain ⟨ho, rfl⟩ := hk
        have h3 := ((ready_iff v t).1 hr).2.1
        unfold vatI at h3
        rw [if_neg (by have := ho.1; omega)] at h3
        exact ⟨by have := ho.1; omega, by omega⟩
      · omega
/-- Who was taken is heard. -/
theorem chain_heard : ∀ {b : List Txn} {v : List Int}, chain v b = true → ∀ t ∈ b, okN t → t.seq ≤ vat (nexts v b) t.node.toNat
  | [], _, _, t, ht, _ => by simp at ht
  | x :: r, v, h, t, ht, ho => by
    obtain ⟨hr, hc⟩ := (chain_cons v x r).1 h
    rcases List.mem_cons.1 ht with rfl | ht
    · refine Int.le_trans ?_ (nexts_mono hc _)
      rw [vat_next, if_pos ⟨ho, rfl⟩]
      exact Int.le_refl _
    · exact chain_heard hc t ht ho
theorem chain_sub : ∀ {a : List Txn} {u v w : List Int} {l b : List Txn}, (∀ t ∈ l, ∀ t' ∈ l, dotOf t = dotOf t' → t = t') → chain v b = true → w = nexts v b → (∀ t ∈ b, t ∈ l) → (∀ t ∈ l, t ∈ b ∨ ready w t = false) →
    (∀ i, vat v i ≤ vat u i) → (∀ i, vat u i ≤ vat w i) → chain u a = true → (∀ t ∈ a, t ∈ l) → (∀ t ∈ a, t ∈ b) ∧ ∀ i, vat (nexts u a) i ≤ vat w i
  | [], u, v, w, l, b, _, _, _, _, _, _, hw, _, _ => ⟨by simp, hw⟩
  | t :: r, u, v, w, l, b, hd, hb, hwn, hbl, hr, hv, hw, hc, hal => by
    obtain ⟨h1, h2⟩ := (chain_cons u t r).1 hc
    have htl := hal t (List.mem_cons_self ..)
    obtain ⟨g1, g2, g3⟩ := (ready_iff u t).1 h1
    have htb : t ∈ b := by
      rcases hr t htl with h | h
      · exact h
      · have hnot : t.seq - 1 ≠ vatI w t.node := fun e => by
          have := (ready_iff w t).2 ⟨g1, e, fun i => Int.le_trans (g3 i) (hw i)⟩
          rw [h] at this; exact absurd this (by simp)
        have hle := vatI_mono hw t.node
        have hn0 : 0 ≤ t.node := by
          unfold vatI at hnot hle g2
          split at g2
          · rename_i hneg; rw [if_pos hneg] at hnot; omega
          · omega
        have e1 : vatI u t.node = vat u t.node.toNat := by unfold vatI; rw [if_neg (by omega)]
        have e2 : vatI w t.node = vat w t.node.toNat := by unfold vatI; rw [if_neg (by omega)]
        have hvu := hv t.node.toNat
        obtain ⟨x, hx, e3, e4⟩ := chain_every hb t.node.toNat t.seq (by omega) (by rw [← hwn]; omega)
        have := hd x (hbl x hx) t htl (by unfold dotOf; rw [e3, e4, Int.toNat_of_nonneg hn0])
        rwa [← this]
    have hw' : ∀ i, vat (next u t) i ≤ vat w i := fun i => by
      rw [vat_next]
      split
      · rename_i hk
        obtain ⟨ho, rfl⟩ := hk
        rw [hwn]
        exact chain_heard hb t htb ho
      · exact hw i
    obtain ⟨k1, k2⟩ := chain_sub hd hb hwn hbl hr (fun i => Int.le_trans (hv i) (next_mono h1 i)) hw' h2 (fun x hx => hal x (List.mem_cons_of_mem _ hx))
    refine ⟨fun x hx => ?_, k2⟩
    rcases List.mem_cons.1 hx with rfl | hx
    · exact htb
    · exact k1 x hx
/-- Out of lists with the same transactions the same ones are taken. -/
theorem takeT_sub {v : List Int} {l l' : List Txn} (hd : ∀ t ∈ l', ∀ t' ∈ l', dotOf t = dotOf t' → t = t') (hl : ∀ t ∈ l, t ∈ l') :
    (∀ t ∈ (takeT v l).1, t ∈ (takeT v l').1) ∧ ∀ i, vat (takeT v l).2 i ≤ vat (takeT v l').2 i := by
  obtain ⟨r, hp, hr⟩ := takeT_rest v l'
  rw [takeT_nexts v l]
  exact chain_sub hd (takeT_chain v l') (takeT_nexts v l') (fun t ht => takeT_mem ht) (fun t ht => by
    rcases List.mem_append.1 (hp.mem_iff.1 ht) with h | h
    · exact .inl h
    · exact .inr (hr t h)) (fun i => Int.le_refl _) (fun i => by rw [takeT_nexts]; exact nexts_mono (takeT_chain v l') i) (takeT_chain v l) (fun t ht => hl t (takeT_mem ht))
theorem dots_inj : ∀ {l : List Txn}, (l.map dotOf).Nodup → ∀ t ∈ l, ∀ t' ∈ l, dotOf t = dotOf t' → t = t'
  | [], _, t, ht, _, _, _ => by simp at ht
  | x :: r, hn, t, ht, t', ht', e => by
    rw [List.map_cons, List.nodup_cons] at hn
    rcases List.mem_cons.1 ht with h1 | h1 <;> rcases List.mem_cons.1 ht' with h2 | h2
    · rw [h1, h2]
    · exact absurd (by rw [← h1, e]; exact List.mem_map_of_mem h2) hn.1
    · exact absurd (by rw [← h2, ← e]; exact List.mem_map_of_mem h1) hn.1
    · exact dots_inj hn.2 t h1 t' h2 e
theorem nodup_of_dots {l : List Txn} (h : (l.map dotOf).Nodup) : l.Nodup := by
  induction l with
  | nil => simp
  | cons t r ih =>
    rw [List.map_cons, List.nodup_cons] at h
    exact List.nodup_cons.2 ⟨fun ht => h.1 (List.mem_map_of_mem ht), ih h.2⟩
/-- What is taken of numbers that may stand in vectors is there once. -/
theorem chain_nodup : ∀ {b : List Txn} {v : List Int}, chain v b = true → (∀ t ∈ b, okN t) → b.Nodup ∧ ∀ t ∈ b, vat v t.node.toNat < t.seq
  | [], _, _, _ => ⟨by simp, by simp⟩
  | t :: r, v, h, ho => by
    obtain ⟨hr, hc⟩ := (chain_cons v t r).1 h
    obtain ⟨h1, h2⟩ := chain_nodup hc fun x hx => ho x (List.mem_cons_of_mem _ hx)
    have ht := ho t (List.mem_cons_self ..)
    refine ⟨List.nodup_cons.2 ⟨fun hm => ?_, h1⟩, fun x hx => ?_⟩
    · have := h2 t hm
      rw [vat_next, if_pos ⟨ht, rfl⟩] at this
      omega
    · rcases List.mem_cons.1 hx with rfl | hx
      · have h3 := ((ready_iff v x).1 hr).2.1
        unfold vatI at h3
        rw [if_neg (by have := ht.1; omega)] at h3
        omega
      · exact Int.lt_of_le_of_lt (next_mono hr _) (h2 x hx)
theorem take_any {v : List Int} {l l' : List Txn} (hd : ∀ t ∈ l, ∀ t' ∈ l, dotOf t = dotOf t' → t = t') (hm : ∀ t, t ∈ l ↔ t ∈ l') (h1 : (takeT v l).1.Nodup) (h2 : (takeT v l').1.Nodup) :
    (takeT v l).1.Perm (takeT v l').1 ∧ ∀ i, vat (takeT v l).2 i = vat (takeT v l').2 i := by
  obtain ⟨a1, a2⟩ := takeT_sub (v := v) (l := l) (l' := l') (fun t ht t' ht' => hd t ((hm t).2 ht) t' ((hm t').2 ht')) (fun t ht => (hm t).1 ht)
  obtain ⟨b1, b2⟩ := takeT_sub (v := v) (l := l') (l' := l) hd (fun t ht => (hm t).2 ht)
  exact ⟨(List.perm_ext_iff_of_nodup h1 h2).2 fun t => ⟨a1 t, b1 t⟩, fun i => Int.le_antisymm (a2 i) (b2 i)⟩
theorem take_nodup {v : List Int} {l : List Txn} (h : l.Nodup) : (takeT v l).1.Nodup := by
  obtain ⟨r, hp, _⟩ := takeT_rest v l
  exact (List.nodup_append.1 (hp.nodup_iff.1 h)).1
/-- Taken once more nothing of it is ready. -/
theorem take_twice {v : List Int} {l : List Txn} (ho : ∀ t ∈ l, okN t) : takeT (takeT v l).2 l = ([], (takeT v l).2) := by
  obtain ⟨r, hp, hr⟩ := takeT_rest v l
  refine takeT_none fun t ht => ?_
  rcases List.mem_append.1 (hp.mem_iff.1 ht) with h | h
  · cases hq : ready (takeT v l).2 t with
    | false => rfl
    | true =>
      have g := ((ready_iff _ t).1 hq).2.1
      have ht' := ho t ht
      have := chain_heard (takeT_chain v l) t h ht'
      rw [← takeT_nexts] at this
      unfold vatI at g
      rw [if_neg (by have := ht'.1; omega)] at g
      omega
  · exact hr t h
theorem take_doubled {v : List Int} {l : List Txn} (hd : (l.map dotOf).Nodup) (ho : ∀ t ∈ l, okN t) : (takeT v l).1.length = (takeT v (l ++ l)).1.length ∧ (takeT v l).2 = (takeT v (l ++ l)).2 := by
  have hm : ∀ t, t ∈ l ↔ t ∈ l ++ l := fun t => by simp
  obtain ⟨h1, h2⟩ := take_any (v := v) (dots_inj hd) hm (take_nodup (nodup_of_dots hd)) (chain_nodup (takeT_chain v (l ++ l)) fun t ht => ho t ((hm t).2 (takeT_mem ht))).1
  refine ⟨h1.length_eq, ?_⟩
  cases hc : (takeT v l).1 with
  | nil =>
    rw [hc] at h1
    have e2 := h1.symm.eq_nil
    rw [takeT_nexts, takeT_nexts, hc, e2]
  | cons t r =>
    have k : ∀ m : List Txn, (takeT v m).1 ≠ [] → trim (takeT v m).2 = (takeT v m).2 := fun m hne => by
      rw [takeT_nexts]
      cases hq : (takeT v m).1 with
      | nil => exact absurd hq hne
      | cons x y => rw [nexts_cons]; exact nexts_trim (trim_next v x)
    have hne : (takeT v (l ++ l)).1 ≠ [] := fun e => by rw [e, hc] at h1; exact absurd h1.eq_nil (by simp)
    rw [← k l (by rw [hc]; simp), ← k (l ++ l) hne]
    exact trim_ext _ _ h2
end Go.Bv
