/- Part of the lift: an abstract walk of the program's code, proved sound, and what it shows of this program. -/
import Derived.Test.YtkehoabgejdpgaaBvFrame
namespace Go.Bv
open Go

-- owned rows, handed on as lists
mutual
inductive Lent (H : List Blk) (L : Nat → Prop) : AV → AV → Prop
  | same (a : AV) : Lent H L a a
  | own {id off len : Nat} {kk : RK} {sh : Sh} {es l : List AV} (hL : L id) (hid : H[id]? = some (.row kk sh es)) (hk : kk ≠ .box) (hle : off + len ≤ es.length) (hl : l = (es.drop off).take len) : Lent H L (.own id off len) (.list sh l)
  | agg {cs cs' : List AV} (h : LentAs H L cs cs') : Lent H L (.agg cs) (.agg cs')
inductive LentAs (H : List Blk) (L : Nat → Prop) : List AV → List AV → Prop
  | nil : LentAs H L [] []
  | cons {a b : AV} {l l' : List AV} (h : Lent H L a b) (hs : LentAs H L l l') : LentAs H L (a :: l) (b :: l')
end

section
variable {H : List Blk} {L : Nat → Prop}
theorem LentAs.length : ∀ {l l' : List AV}, LentAs H L l l' → l'.length = l.length
  | _, _, .nil => rfl
  | _, _, .cons _ hs => by simp [hs.length]
theorem LentAs.get : ∀ {l l' : List AV}, LentAs H L l l' → ∀ (i : Nat) (h : i < l.length) (h' : i < l'.length), Lent H L l[i] l'[i]
  | _, _, .nil, i, h, _ => by simp at h
  | _, _, .cons h hs, 0, _, _ => h
  | _, _, .cons h hs, i + 1, h1, h2 => hs.get i (by simpa using h1) (by simpa using h2)
end

/-- The rows of L may be read, and nothing is owned. -/
def Ctx.lend (C : Ctx) (L : Nat → Prop) : Ctx := { w := C.w, F := fun b => C.F b ∨ ∃ id k, C.H[id]? = some k ∧ k.live ∧ C.β id = b ∧ ¬ L id, β := C.β, H := [] }

theorem lend_rep {C : Ctx} {L : Nat → Prop} (hC : HRep C) : HRep (C.lend L) where
  inj := fun i j k m h => by simp [Ctx.lend] at h
  notF := fun i k h => by simp [Ctx.lend] at h
  Flt := fun b h => by
    rcases h with h | ⟨id, k, hk, hl, rfl, _⟩
    · exact hC.Flt b h
    · exact hC.lt hk hl
  sz := fun i k sh es h => by simp [Ctx.lend] at h
  row := fun i k sh es h => by simp [Ctx.lend] at h
  map := fun i es h => by simp [Ctx.lend] at h

theorem lend_G {C : Ctx} {L : Nat → Prop} {b : Nat} (h : C.G b) : (C.lend L).G b := by
  obtain ⟨h1, h2, h3⟩ := h
  exact ⟨h1, fun h => h.elim h2 fun ⟨id, k, h1, h2, h4, _⟩ => h3 ⟨id, k, h1, h2, h4⟩, fun ⟨id, k, hk, _⟩ => by simp [Ctx.lend] at hk⟩
theorem lend_row {C : Ctx} {L : Nat → Prop} (hC : HRep C) {id : Nat} {k : Blk} (hk : C.H[id]? = some k) (hl : k.live) (hL : L id) : (C.lend L).G (C.β id) := by
  refine ⟨hC.lt hk hl, ?_, fun ⟨id, k, hk, _⟩ => by simp [Ctx.lend] at hk⟩
  rintro (h | ⟨j, m, hm, hml, hb, hn⟩)
  · exact hC.notF id k hk hl h
  · have := hC.inj j id m k hm hk hml hl hb
    subst this; exact hn hL

section
variable {C C1 : Ctx} {L : Nat → Prop}
theorem lent_RL (hC : HRep C) (hw : C1.w = C.w) (hG : ∀ b, C.G b → C1.G b) (hL : ∀ id k, C.H[id]? = some k → k.live → L id → C1.G (C.β id)) {v : Value} {a a' : AV} (h : Lent C.H L a a') (ha : a'.noOwn1 = true) (r : RL C v a) : RL C1 v a' := by
  cases h with
  | same => have := low_RL hw hG r; rwa [low1_eq ha] at this
  | own hL' hid hk hle hl =>
    subst hl
    have := own_list hC hG r hid hk hle (fun hl => hL _ _ hid hl hL')
    rw [← hw] at this; exact this
  | agg => exact (show False from r).elim
theorem lent_R1 (hC : HRep C) (hw : C1.w = C.w) (hG : ∀ b, C.G b → C1.G b) (hL : ∀ id k, C.H[id]? = some k → k.live → L id → C1.G (C.β id)) {v : Value} {a a' : AV} (h : Lent C.H L a a') (ha : a'.noOwnR = true) (r : R1 C v a) : R1 C1 v a' := by
  cases h with
  | same => have := low_R1 hw hG r; rwa [lowR_eq ha] at this
  | own hL' hid hk hle hl => exact lent_RL hC hw hG hL (.own hL' hid hk hle hl) rfl r
  | agg => exact (show False from r).elim
theorem lent_RA (hC : HRep C) (hw : C1.w = C.w) (hG : ∀ b, C.G b → C1.G b) (hL : ∀ id k, C.H[id]? = some k → k.live → L id → C1.G (C.β id)) {v : Value} {a a' : AV} (h : Lent C.H L a a') (ha : a'.noOwn = true) (r : RA C v a) : RA C1 v a' := by
  cases h with
  | same => have := low_RA hw hG r; rwa [lowA_eq ha] at this
  | own hL' hid hk hle hl => exact lent_R1 hC hw hG hL (.own hL' hid hk hle hl) rfl r
  | agg h =>
    simp only [AV.noOwn, List.all_eq_true] at ha
    obtain ⟨cv, hv, hsz, hc, ho⟩ := r
    exact ⟨cv, hv, by rw [h.length]; exact hsz, fun i hi => lent_R1 hC hw hG hL (h.get i (by rw [← h.length]; exact hi) hi) (ha _ (List.getElem_mem hi)) (hc i (by rw [← h.length]; exact hi)), ho⟩
end

/-- Values without memory. -/
def AV.flat1 : AV → Bool
  | .bool _ | .int _ _ | .str _ | .nils | .undef => true
  | _ => false
def AV.flatA : AV → Bool
  | .agg cs => cs.all AV.flat1
  | a => a.flat1
def AV.flat : AV → Bool
  | .tup vs => vs.all AV.flatA
  | a => a.flatA

theorem flat_RL {C C' : Ctx} {v : Value} {a : AV} (h : a.flat1 = true) (r : RL C v a) : RL C' v a := by
  cases a <;> simp [AV.flat1] at h <;> first | trivial | (simp only [RL] at r ⊢; cases r; constructor)
theorem flat_R1 {C C' : Ctx} {v : Value} {a : AV} (h : a.flat1 = true) (r : R1 C v a) : R1 C' v a := by
  cases a <;> simp [AV.flat1] at h <;> simp only [R1] at r ⊢ <;> exact flat_RL rfl r
theorem flat_RA {C C' : Ctx} {v : Value} {a : AV} (h : a.flatA = true) (r : RA C v a) : RA C' v a := by
  cases a with
  | agg cs =>
    simp only [AV.flatA, List.all_eq_true] at h
    obtain ⟨cv, hv, hsz, hc, ho⟩ := r
    exact ⟨cv, hv, hsz, fun i hi => flat_R1 (h _ (List.getElem_mem hi)) (hc i hi), ho⟩
  | _ => simp only [AV.flatA] at h; simp only [RA] at r ⊢; exact flat_R1 h r
theorem flat_RT {C C' : Ctx} {v : Value} {a : AV} (h : a.flat = true) (r : RT C v a) : RT C' v a := by
  cases a with
  | tup cs =>
    simp only [AV.flat, List.all_eq_true] at h
    obtain ⟨cv, hv, hsz, hc⟩ := r
    exact ⟨cv, hv, hsz, fun i hi => flat_RA (h _ (List.getElem_mem hi)) (hc i hi)⟩
  | _ => simp only [AV.flat] at h; simp only [RT] at r ⊢; exact flat_RA h r

theorem lend_keep {C D : Ctx} {L : Nat → Prop} (hE : Ext (C.lend L) D) {b : Nat} (hb : b < C.w.heap.size) : D.w.heap[b]? = C.w.heap[b]? := hE.keep b hb (fun ⟨id, k, hk, _⟩ => by simp [Ctx.lend] at hk)

/-- Nothing owned has turned; new memory that nobody owns. -/
theorem grown_ext {C : Ctx} {w' : World} (hC : HRep C) (hos : w'.os = C.w.os) (ht : w'.tape = C.w.tape) (ho : w'.output = C.w.output) (hsz : C.w.heap.size ≤ w'.heap.size) (hk : ∀ b, b < C.w.heap.size → w'.heap[b]? = C.w.heap[b]?) : Ext C { C with w := w' } ∧ HRep { C with w := w' } := by
  have hE : Ext C { C with w := w' } := ⟨rfl, hos, ht, ho, hsz, Nat.le_refl _, fun _ _ => rfl, fun b hb _ => hk b hb, fun id k h1 h2 _ => by
      have := (List.getElem?_eq_some_iff.1 h2).1
      dsimp only at this; omega, fun id k sh es h1 h2 => ⟨es, h2, rfl, fun hl => by
      obtain ⟨c, T, fr, hc, _⟩ := hC.row id k sh es h2 hl
      exact ⟨c, T, fr, c, T, fr, hc, by rw [← hc]; exact hk _ (hC.lt h2 hl), rfl⟩⟩, fun id es _ h => ⟨es, h⟩, fun id sh es _ h => .inl h⟩
  refine ⟨hE, hC.inj, hC.notF, fun b h => Nat.lt_of_lt_of_le (hC.Flt b h) hsz, hC.sz, fun i k sh es he hl => ?_, fun i es he => ?_⟩
  · obtain ⟨c, T, fr, hc, h1, h2, h3, h4⟩ := hC.row i k sh es he hl
    refine ⟨c, T, fr, by rw [← hc]; exact hk _ (hC.lt he hl), h1, h2, h3, fun j hj => ?_⟩
    obtain ⟨v, hv, hp, hs, hcell⟩ := h4 j hj
    exact ⟨v, hE.RA hv, fun hk => hE.RP (hp hk), hs, hcell⟩
  · obtain ⟨me, cl, hm, hs, h⟩ := hC.map i es he
    refine ⟨me, cl, by rw [← hm]; exact hk _ (hC.lt he trivial), hs, fun j hj => ?_⟩
    obtain ⟨m, h1, h2, h3⟩ := h j hj
    exact ⟨m, h1, hE.RP h2, hE.RP h3⟩

/-- A contract over lists, asked with owned rows in their place: they are read, and stay owned, if the answer has no memory. -/
theorem ACalls.lend {P : Program} {f : FuncId} {args args' : List AV} {r : AV} (h : ACalls P f args' [] r []) (H : List Blk) (hl : LentAs H (fun _ => True) args args') (ha : args'.all AV.noOwn = true) (hr : r.flat = true) : ACalls P f args H r H := by
  refine ⟨h.1, fun C hH hC cargs hsz hargs => ?_⟩
  subst hH
  rw [List.all_eq_true] at ha
  refine (h.2 (C.lend fun _ => True) rfl (lend_rep hC) cargs (by rw [hl.length]; exact hsz) fun i hi => ?_).mono fun e w' h => ?_
  · exact lent_RA hC (C1 := C.lend fun _ => True) rfl (fun _ h => lend_G h) (fun id k hk hlv hL => lend_row hC hk hlv hL) (hl.get i (by rw [← hl.length]; exact hi) hi) (ha _ (List.getElem_mem hi)) (hargs i (by rw [← hl.length]; exact hi))
  · obtain ⟨v, D, he, hw, hDH, hE, hD, hv⟩ := h
    obtain ⟨hE', hC'⟩ := grown_ext hC (w' := D.w) hE.os hE.tape hE.output hE.size (fun b hb => lend_keep hE hb)
    exact ⟨v, { C with w := D.w }, he, hw, rfl, hE', hC', flat_RT hr hv⟩

/-- An owned row becomes a list for good. -/
theorem ACalls.freeze {P : Program} {f : FuncId} {args args' : List AV} {r : AV} {H H' : List Blk} (id : Nat) (h : ACalls P f args' (H.set id .dead) r H') (hl : LentAs H (· = id) args args') : ACalls P f args H r H' := by
  refine ⟨h.1, fun C hH hC cargs hsz hargs => ?_⟩
  subst hH
  have hE1 := kill_ext hC id
  have hC1 := kill_hrep hC id
  have hGid : ∀ j k, C.H[j]? = some k → k.live → j = id → ({ C with H := C.H.set id .dead } : Ctx).G (C.β j) := by
    rintro j k hk hlv rfl
    refine ⟨hC.lt hk hlv, hC.notF j _ hk hlv, ?_⟩
    rintro ⟨i, m', hj, hjl, hb⟩
    dsimp only at hj hb
    rw [List.getElem?_set] at hj
    split at hj
    · first | (split at hj <;> simp at hj; subst hj; exact hjl) | (have hj := Option.some.inj hj; subst hj; exact hjl)
    · rename_i hne
      exact hne (hC.inj i j _ _ hj hk hjl hlv hb).symm
  have key1 : ∀ {v a a'}, Lent C.H (· = id) a a' → RL C v a → RL { C with H := C.H.set id .dead } v a' := by
    intro v a a' h r
    cases h with
    | same => exact hE1.RL r
    | own hL' hid hk hle hl =>
      subst hl
      exact own_list hC (G := ({ C with H := C.H.set id .dead } : Ctx).G) (fun b hb => (hE1.G hb).1) r hid hk hle (fun hl => hGid _ _ hid hl hL')
    | agg => exact (show False from r).elim
  have keyR : ∀ {v a a'}, Lent C.H (· = id) a a' → R1 C v a → R1 { C with H := C.H.set id .dead } v a' := by
    intro v a a' h r
    cases h with
    | same => exact hE1.R1 r
    | own hL' hid hk hle hl => exact key1 (.own hL' hid hk hle hl) r
    | agg => exact (show False from r).elim
  refine (h.2 { C with H := C.H.set id .dead } rfl hC1 cargs (by rw [hl.length]; exact hsz) fun i hi => ?_).mono fun e w' h => ?_
  · have r := hargs i (by rw [← hl.length]; exact hi)
    have g := hl.get i (by rw [← hl.length]; exact hi) hi
    generalize args'[i] = x' at g ⊢
    generalize args[i]'(by rw [← hl.length]; exact hi) = x at g r
    cases g with
    | same => exact hE1.RA r
    | own hL' hid hk hle hl => exact keyR (.own hL' hid hk hle hl) r
    | agg h =>
      obtain ⟨cv, hv, hsz, hc, ho⟩ := r
      exact ⟨cv, hv, by rw [h.length]; exact hsz, fun i hi => keyR (h.get i (by rw [← h.length]; exact hi) hi) (hc i (by rw [← h.length]; exact hi)), ho⟩
  · obtain ⟨v, D, he, hw, hDH, hE, hD, hv⟩ := h
    exact ⟨v, D, he, hw, hDH, hE1.trans hE, hD, hv⟩

end Go.Bv
