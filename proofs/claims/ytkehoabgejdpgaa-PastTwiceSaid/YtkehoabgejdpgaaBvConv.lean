/- Part of the lift: an abstract walk of the program's code, proved sound, and what it shows of this program. -/
import Derived.Test.YtkehoabgejdpgaaBvSnd10
namespace Go.Bv
open Go

-- the conversions come to one thing
theorem cv1_det {n0 : Nat} {S : List Nat} {H : List Blk} {a : AV} {k : AV → Prop} (h : cv1 n0 S H a k) : ∃ a', cv1 n0 S H a (· = a') ∧ k a' := by
  unfold cv1 at h
  split at h
  · rename_i id off len
    split at h
    · rename_i j hj; exact ⟨_, by simp [cv1, hj], h⟩
    · rename_i hj
      split at h
      · rename_i kk sh es hid
        split at h
        · exact h.elim
        · rename_i hk
          obtain ⟨l, h1, h2, h3⟩ := h
          refine ⟨_, ?_, h3⟩
          simp only [cv1, hj, hid]
          exact ⟨l, h1, h2, rfl⟩
      · rename_i sh es hid
        refine ⟨_, ?_, h⟩
        simp only [cv1, hj, hid]
      · rename_i hid hid2
        refine ⟨_, ?_, h⟩
        simp only [cv1, hj]
        try (split <;> first | rfl | (rename_i hh; exact absurd hh (hid _ _ _)) | (rename_i hh; exact absurd hh (hid2 _ _)))
  · rename_i id i o
    split at h
    · rename_i j hj; exact ⟨_, by simp [cv1, hj], h⟩
    · rename_i hj; exact ⟨_, by simp [cv1, hj], h⟩
  · rename_i id
    split at h
    · rename_i j hj; exact ⟨_, by simp [cv1, hj], h⟩
    · rename_i hj; exact ⟨_, by simp [cv1, hj], h⟩
  · exact h.elim
  · exact h.elim
  · exact h.elim
  · rename_i h1 h2 h3 h4 h5 h6
    rw [force_eq] at h
    refine ⟨a, ?_, h⟩
    cases a <;> first | rfl | exact absurd rfl (h1 _ _ _) | exact absurd rfl (h2 _ _ _) | exact absurd rfl (h3 _) | exact absurd rfl (h4 _ _) | exact absurd rfl (h5 _) | exact absurd rfl (h6 _)

theorem cvs1_det {n0 : Nat} {S : List Nat} {H : List Blk} : ∀ {l : List AV} {k : List AV → Prop}, cvs1 n0 S H l k → ∃ l', l'.length = l.length ∧ (∀ (i : Nat) (h : i < l.length) (h' : i < l'.length), cv1 n0 S H l[i] (· = l'[i])) ∧ k l'
  | [], k, h => ⟨[], rfl, fun i h => by simp at h, h⟩
  | a :: r, k, h => by
    rw [cvs1_cons] at h
    obtain ⟨a', ha, h⟩ := cv1_det h
    obtain ⟨r', hl, hr, h⟩ := cvs1_det h
    refine ⟨a' :: r', by simp [hl], fun i hi hi' => ?_, h⟩
    cases i with
    | zero => exact ha
    | succ i => exact hr i (by simpa using hi) (by simpa using hi')

/-- What a conversion of a value is. -/
def CvA (n0 : Nat) (S : List Nat) (H : List Blk) (a a' : AV) : Prop :=
  (∃ cs cs', a = .agg cs ∧ a' = .agg cs' ∧ cs'.length = cs.length ∧ ∀ (i : Nat) (h : i < cs.length) (h' : i < cs'.length), cv1 n0 S H cs[i] (· = cs'[i])) ∨
  (∃ f cs cs', a = .fn f cs ∧ a' = .fn f cs' ∧ cs'.length = cs.length ∧ ∀ (i : Nat) (h : i < cs.length) (h' : i < cs'.length), cv1 n0 S H cs[i] (· = cs'[i])) ∨
  ((∀ cs, a ≠ .agg cs) ∧ (∀ f cs, a ≠ .fn f cs) ∧ (∀ vs, a ≠ .tup vs) ∧ cv1 n0 S H a (· = a'))

theorem cvA_det {n0 : Nat} {S : List Nat} {H : List Blk} {a : AV} {k : AV → Prop} (h : cvA n0 S H a k) : ∃ a', CvA n0 S H a a' ∧ k a' := by
  unfold cvA at h
  split at h
  · obtain ⟨l', hl, hr, h⟩ := cvs1_det h
    exact ⟨_, .inl ⟨_, _, rfl, rfl, hl, hr⟩, h⟩
  · obtain ⟨l', hl, hr, h⟩ := cvs1_det h
    exact ⟨_, .inr (.inl ⟨_, _, _, rfl, rfl, hl, hr⟩), h⟩
  · exact h.elim
  · rename_i h1 h2 h3
    obtain ⟨a', ha, h⟩ := cv1_det h
    exact ⟨a', .inr (.inr ⟨h1, h2, h3, ha⟩), h⟩

theorem cvsA_det {n0 : Nat} {S : List Nat} {H : List Blk} : ∀ {l : List AV} {k : List AV → Prop}, cvsA n0 S H l k → ∃ l', l'.length = l.length ∧ (∀ (i : Nat) (h : i < l.length) (h' : i < l'.length), CvA n0 S H l[i] l'[i]) ∧ k l'
  | [], k, h => ⟨[], rfl, fun i h => by simp at h, h⟩
  | a :: r, k, h => by
    rw [cvsA_cons] at h
    obtain ⟨a', ha, h⟩ := cvA_det h
    obtain ⟨r', hl, hr, h⟩ := cvsA_det h
    refine ⟨a' :: r', by simp [hl], fun i hi hi' => ?_, h⟩
    cases i with
    | zero => exact ha
    | succ i => exact hr i (by simpa using hi) (by simpa using hi')

def CvBlk (n0 : Nat) (S : List Nat) (H : List Blk) (b b' : Blk) : Prop :=
  (∃ sh x x', b = .row .box sh [x] ∧ b' = .row .box sh [x'] ∧ CvA n0 S H x x') ∨ (b = b' ∧ ∀ sh es, b ≠ .row .box sh es)

theorem cvBlk_det {n0 : Nat} {S : List Nat} {H : List Blk} {b : Blk} {k : Blk → Prop} (h : cvBlk n0 S H b k) : ∃ b', CvBlk n0 S H b b' ∧ k b' := by
  unfold cvBlk at h
  split at h
  · obtain ⟨x', hx, h⟩ := cvA_det h
    exact ⟨_, .inl ⟨_, _, _, rfl, rfl, hx⟩, h⟩
  · exact h.elim
  · rename_i h1 h2
    exact ⟨b, .inr ⟨rfl, fun sh es => h2 sh es⟩, h⟩

theorem cvH_det {n0 : Nat} {S : List Nat} {H : List Blk} : ∀ {l : List Nat} {k : List Blk → Prop}, cvH n0 S H l k →
    ∃ H', H'.length = l.length ∧ (∀ (i : Nat) (h : i < l.length) (h' : i < H'.length), ∃ b, H[l[i]]? = some b ∧ CvBlk n0 S H b H'[i]) ∧ k H'
  | [], k, h => ⟨[], rfl, fun i h => by simp at h, h⟩
  | id :: r, k, h => by
    simp only [cvH_cons] at h
    split at h
    · rename_i b hb
      obtain ⟨b', hb', h⟩ := cvBlk_det h
      obtain ⟨r', hl, hr, h⟩ := cvH_det h
      refine ⟨b' :: r', by simp [hl], fun i hi hi' => ?_, h⟩
      cases i with
      | zero => exact ⟨b, hb, hb'⟩
      | succ i => exact hr i (by simpa using hi) (by simpa using hi')
    · exact h.elim

-- numbers
theorem idxIn_some : ∀ (l : List Nat) (id j q : Nat), idxIn l id j = some q → j ≤ q ∧ q - j < l.length ∧ l[q - j]? = some id
  | [], _, _, _, h => by simp [idxIn] at h
  | x :: r, id, j, q, h => by
    simp only [idxIn] at h
    split at h
    · rename_i hb
      have := Nat.eq_of_beq_eq_true hb
      simp only [Option.some.injEq] at h
      subst h this
      simp
    · obtain ⟨h1, h2, h3⟩ := idxIn_some r id (j + 1) q h
      have e : q - j = (q - (j + 1)) + 1 := by omega
      refine ⟨by omega, by simp; omega, ?_⟩
      rw [e, List.getElem?_cons_succ]
      exact h3

theorem idxIn_none : ∀ (l : List Nat) (id j : Nat), idxIn l id j = none → id ∉ l
  | [], _, _, _ => by simp
  | x :: r, id, j, h => by
    simp only [idxIn] at h
    split at h
    · simp at h
    · rename_i hb
      have := idxIn_none r id (j + 1) h
      simp only [List.mem_cons, not_or]
      refine ⟨?_, this⟩
      rintro rfl
      simp at hb

theorem nodupB_spec : ∀ (l : List Nat), nodupB l = true → l.Nodup
  | [], _ => List.nodup_nil
  | x :: r, h => by
    simp only [nodupB] at h
    split at h
    · rename_i hn
      exact List.nodup_cons.2 ⟨idxIn_none r x 0 hn, nodupB_spec r h⟩
    · simp at h

theorem allGe_spec {n0 : Nat} : ∀ (l : List Nat), allGe n0 l = true → ∀ x ∈ l, n0 ≤ x
  | [], _, x, hx => by simp at hx
  | y :: r, h, x, hx => by
    simp only [allGe, Bool.and_eq_true] at h
    rcases List.mem_cons.1 hx with rfl | hx
    · exact Nat.le_of_ble_eq_true h.1
    · exact allGe_spec r h.2 x hx

theorem pos_some {n0 : Nat} {S : List Nat} {id j : Nat} (h : pos n0 S id = some j) : (List.range n0 ++ S)[j]? = some id := by
  unfold pos at h
  split at h
  · rename_i hb
    simp only [Option.some.injEq] at h; subst h
    have := Nat.blt_eq.mp hb
    rw [List.getElem?_append_left (by simpa using this), List.getElem?_range this]
  · obtain ⟨h1, h2, h3⟩ := idxIn_some S id n0 j h
    rw [List.getElem?_append_right (by simpa using h1)]
    simpa using h3

theorem pos_none {n0 : Nat} {S : List Nat} {id : Nat} (h : pos n0 S id = none) : id ∉ List.range n0 ++ S := by
  unfold pos at h
  split at h
  · simp at h
  · rename_i hb
    have := idxIn_none S id n0 h
    simp only [List.mem_append, List.mem_range, not_or]
    refine ⟨?_, this⟩
    intro hlt
    have := Nat.blt_eq.mpr hlt
    rw [this] at hb; simp at hb

theorem mapT_nodup {n0 : Nat} {S : List Nat} (hS : (nodupB S && allGe n0 S) = true) : (List.range n0 ++ S).Nodup := by
  simp only [Bool.and_eq_true] at hS
  refine List.nodup_append.2 ⟨List.nodup_range, nodupB_spec S hS.1, ?_⟩
  intro a ha b hb hab
  subst hab
  have := allGe_spec S hS.2 a hb
  simp at ha
  omega

/-- The state laid anew. -/
structure Anew (n0 : Nat) (S : List Nat) (C C' : Ctx) : Prop where
  w : C'.w = C.w
  F : C'.F = C.F
  pos : ∀ id j, Bv.pos n0 S id = some j → j < C'.H.length ∧ C'.β j = C.β id ∧
    (∀ k sh es, C'.H[j]? = some (.row k sh es) → ∃ es0, C.H[id]? = some (.row k sh es0) ∧ es0.length = es.length) ∧ (∀ es, C'.H[j]? = some (.map es) → C.H[id]? = some (.map es)) ∧ ∀ sh es, C'.H[j]? = some (.ro sh es) → C.H[id]? = some (.ro sh es)
  G : ∀ b, C.G b → C'.G b
  freed : ∀ id k, C.H[id]? = some k → k.live → Bv.pos n0 S id = none → C'.G (C.β id)

section
variable {n0 : Nat} {S : List Nat} {C C' : Ctx}

theorem Anew.RP (h : Anew n0 S C C') {v : Value} {a : AV} (r : RP C.w C.G v a) : RP C'.w C'.G v a := r.mono fun b hb => ⟨h.G b hb, by rw [h.w]⟩

theorem Anew.cv1 (h : Anew n0 S C C') (hC : HRep C) {v : Value} {a a' : AV} (hc : cv1 n0 S C.H a (· = a')) (hr : RL C v a) : RL C' v a' := by
  unfold Bv.cv1 at hc
  split at hc
  · rename_i id off len
    obtain ⟨hone, hid, hv, hvb, hvr⟩ := hr
    split at hc
    · rename_i j hj
      subst hc
      obtain ⟨h1, h2, h3, _, h5⟩ := h.pos id j hj
      refine ⟨hone, h1, fun k sh es he => ?_, fun k sh es he => ?_, fun sh es he => ?_⟩
      rotate_left
      · obtain ⟨es0, he0, hlen⟩ := h3 k sh es he
        have := hvb k sh es0 he0
        omega
      · obtain ⟨g1, g2⟩ := hvr sh es (h5 sh es he)
        exact ⟨g1, h.RP g2⟩
      obtain ⟨es0, he0, hlen⟩ := h3 k sh es he
      obtain ⟨hn, hl⟩ := hv k sh es0 he0
      refine ⟨fun hd => hn fun hl => hd (Blk.live_row hlen hl), fun hlv => ?_⟩
      obtain ⟨cap, e1, e2, e3, c, T, fz, e4, e5⟩ := hl (Blk.live_row hlen.symm hlv)
      rw [h2, h.w]
      exact ⟨cap, e1, e2, by omega, c, T, fz, e4, e5⟩
    · rename_i hj
      split at hc
      · rename_i kk sh es he
        split at hc
        · exact hc.elim
        · rename_i hkk
          obtain ⟨l, h1, rfl, rfl⟩ := hc
          obtain ⟨hn, hl⟩ := hv kk sh es he
          have hlen : ((es.drop off).take len).length = len := by simp; omega
          by_cases hlv : (Blk.row kk sh es).live
          · obtain ⟨cap, rfl, e2, e3, c, T, fz, e4, e5⟩ := hl hlv
            obtain ⟨c', T', fz', hc', _, _, _, hel⟩ := hC.row id kk sh es he hlv
            rw [e4] at hc'; cases hc'
            have := RP.list (w := C'.w) (G := C'.G) sh (C.β id) (off * sh.size) cap ((es.drop off).take len) (fun q => if h : off + q < es.length then (hel (off + q) h).choose else undef) (by omega) (h.freed id _ he hlv hj)
              (fun q hq => by
                have hq' : off + q < es.length := by omega
                simp only [List.getElem_take, List.getElem_drop]
                rw [dif_pos hq']
                exact h.RP ((hel (off + q) hq').choose_spec.2.1 fun hk => hkk hk))
              (fun q hq => by rw [dif_pos (show off + q < es.length by omega)]; exact (hel (off + q) (by omega)).choose_spec.2.2.1)
              (fun q j hq hj => by
                rw [dif_pos (show off + q < es.length by omega), ← (hel (off + q) (by omega)).choose_spec.2.2.2 j hj]
                simp only [World.cell?, h.w, e4, Option.isSome_none, Bool.false_eq_true, if_false]
                congr 1
                rw [Nat.add_mul])
            rw [hlen] at this
            exact this
          · obtain ⟨ad, rfl, h0⟩ := hn hlv
            have : (es.drop off).take len = [] := by rw [h0]; simp
            rw [this]
            exact .list0 _ _ _
      · rename_i sh es he
        subst hc
        exact h.RP (hvr sh es he).2
      · subst hc; trivial
  · rename_i id i o
    obtain ⟨hone, hid, hv⟩ := hr
    split at hc
    · rename_i j hj
      subst hc
      obtain ⟨h1, h2, h3, _⟩ := h.pos id j hj
      refine ⟨hone, h1, fun k sh es he => ?_⟩
      obtain ⟨es0, he0, hlen⟩ := h3 k sh es he
      rw [h2]
      exact hv k sh es0 he0
    · subst hc; trivial
  · rename_i id
    obtain ⟨hone, hid, hv⟩ := hr
    split at hc
    · rename_i j hj
      subst hc
      obtain ⟨h1, h2, _, h4, _⟩ := h.pos id j hj
      refine ⟨hone, h1, fun es he => ?_⟩
      rw [h2]
      exact hv es (h4 es he)
    · subst hc; trivial
  · exact hc.elim
  · exact hc.elim
  · exact hc.elim
  · rename_i h1 h2 h3 h4 h5 h6
    rw [force_eq] at hc; subst hc
    cases a <;> first | exact absurd rfl (h1 _ _ _) | exact absurd rfl (h2 _ _ _) | exact absurd rfl (h3 _) | exact absurd rfl (h4 _ _) | exact absurd rfl (h5 _) | exact absurd rfl (h6 _) | trivial | exact h.RP hr

theorem cv1_leaf {H : List Blk} {a a' : AV} (hc : Bv.cv1 n0 S H a (· = a')) : (∀ cs, a' ≠ .agg cs) ∧ (∀ vs, a' ≠ .tup vs) ∧ ∀ f cs, a' ≠ .fn f cs := by
  unfold Bv.cv1 at hc
  split at hc
  · split at hc
    · subst hc; simp
    · split at hc
      · split at hc
        · exact hc.elim
        · obtain ⟨l, _, _, rfl⟩ := hc; simp
      · subst hc; simp
      · subst hc; simp
  · split at hc <;> subst hc <;> simp
  · split at hc <;> subst hc <;> simp
  · exact hc.elim
  · exact hc.elim
  · exact hc.elim
  · rename_i h1 h2 h3 h4 h5 h6
    rw [force_eq] at hc; subst hc
    exact ⟨fun cs e => h5 cs e, fun cs e => h6 cs e, fun f cs e => h4 f cs e⟩

theorem RL.R1' {C : Ctx} {v : Value} {a : AV} (h : RL C v a) (hf : ∀ f cs, a ≠ .fn f cs) : R1 C v a := by
  cases a <;> first | exact h | exact absurd rfl (hf _ _)

theorem R1.RL' {C : Ctx} {v : Value} {a : AV} (h : R1 C v a) (hf : ∀ f cs, a ≠ .fn f cs) : RL C v a := by
  cases a <;> first | exact h | exact absurd rfl (hf _ _)

theorem cv1_nfn {H : List Blk} {a a' : AV} (hc : Bv.cv1 n0 S H a (· = a')) : ∀ f cs, a ≠ .fn f cs := by
  rintro f cs rfl; exact hc

theorem Anew.cvA (h : Anew n0 S C C') (hC : HRep C) {v : Value} {a a' : AV} (hc : CvA n0 S C.H a a') (hr : RA C v a) : RA C' v a' := by
  rcases hc with ⟨cs, cs', rfl, rfl, hl, hcs⟩ | ⟨f, cs, cs', rfl, rfl, hl, hcs⟩ | ⟨h1, h2, h3, hc⟩
  · obtain ⟨vs, rfl, hsz, hc, ho⟩ := hr
    refine ⟨vs, rfl, by omega, fun i hi => ?_, ho⟩
    have hi0 : i < cs.length := by omega
    have := hcs i hi0 hi
    have hl1 := h.cv1 hC this ((hc i hi0).RL' (cv1_nfn this))
    exact hl1.R1' (cv1_leaf this).2.2
  · obtain ⟨cv, rfl, hsz, hc⟩ := hr
    refine ⟨cv, rfl, by omega, fun i hi => ?_⟩
    have hi0 : i < cs.length := by omega
    exact h.cv1 hC (hcs i hi0 hi) (hc i hi0)
  · have hr : RL C v a := by cases a <;> first | exact hr | exact absurd rfl (h1 _) | exact absurd rfl (h2 _ _)
    have h4 := h.cv1 hC hc hr
    obtain ⟨l1, l2, l3⟩ := cv1_leaf hc
    cases a' <;> first | exact h4 | exact absurd rfl (l1 _) | exact absurd rfl (l3 _ _)

theorem CvA.nt {H : List Blk} {a a' : AV} (hc : CvA n0 S H a a') : (∀ vs, a ≠ .tup vs) ∧ ∀ vs, a' ≠ .tup vs := by
  rcases hc with ⟨cs, cs', rfl, rfl, _⟩ | ⟨f, cs, cs', rfl, rfl, _⟩ | ⟨h1, h2, h3, hc⟩
  · simp
  · simp
  · exact ⟨h3, (cv1_leaf hc).2.1⟩

theorem Anew.cvT (h : Anew n0 S C C') (hC : HRep C) {v : Value} {a a' : AV} (hc : CvA n0 S C.H a a') (hr : RT C v a) : RT C' v a' := by
  have h1 := h.cvA hC hc (hr.RA hc.nt.1)
  have h2 := hc.nt.2
  cases a' <;> first | exact h1 | exact absurd rfl (h2 _)

/-- The state laid anew is there. -/
theorem anew {C0 C : Ctx} (hE : Ext C0 C) (hC : HRep C) {S : List Nat} (hS : (nodupB S && allGe C0.H.length S) = true) {H' : List Blk} (hlen : H'.length = (List.range C0.H.length ++ S).length)
    (hH : ∀ (i : Nat) (h : i < (List.range C0.H.length ++ S).length) (h' : i < H'.length), ∃ b, C.H[(List.range C0.H.length ++ S)[i]]? = some b ∧ CvBlk C0.H.length S C.H b H'[i]) :
    ∃ C' : Ctx, C'.w = C.w ∧ C'.H = H' ∧ Anew C0.H.length S C C' ∧ Ext C0 C' ∧ HRep C' := by
  let T := List.range C0.H.length ++ S
  have hnd : T.Nodup := mapT_nodup hS
  let C' : Ctx := ⟨C.w, C.F, fun i => C.β (T.getD i 0), H'⟩
  have hT : ∀ (j : Nat) (hj : j < H'.length), T.getD j 0 = T[j]'(by rw [← hlen]; exact hj) := fun j hj => by
    simp [List.getD_eq_getElem?_getD, List.getElem?_eq_getElem (show j < T.length by rw [← hlen]; exact hj)]
  -- a block of the new state and its old one
  have blk : ∀ (j : Nat) (b' : Blk), H'[j]? = some b' → ∃ (hj : j < T.length) (b : Blk), C.H[T[j]]? = some b ∧ CvBlk C0.H.length S C.H b b' ∧ C'.β j = C.β T[j] := by
    intro j b' hb
    obtain ⟨hj, rfl⟩ := List.getElem?_eq_some_iff.1 hb
    have hjT : j < T.length := by rw [← hlen]; exact hj
    obtain ⟨b, h1, h2⟩ := hH j hjT hj
    exact ⟨hjT, b, h1, h2, by show C.β (T.getD j 0) = _; rw [hT j hj]⟩
  have blive : ∀ {b b' : Blk}, CvBlk C0.H.length S C.H b b' → (b'.live ↔ b.live) := by
    intro b b' hc
    rcases hc with ⟨sh, x, x', rfl, rfl, _⟩ | ⟨rfl, _⟩
    · simp [Blk.live]
    · exact Iff.rfl
  have owned : ∀ b, C'.owned b → C.owned b := by
    rintro b ⟨j, b', hj, hl, rfl⟩
    obtain ⟨hjT, b0, h1, h2, h3⟩ := blk j b' hj
    exact ⟨T[j], b0, h1, (blive h2).1 hl, h3.symm⟩
  have hG : ∀ b, C.G b → C'.G b := fun b hb => ⟨hb.1, hb.2.1, fun ho => hb.2.2 (owned b ho)⟩
  have hpos : ∀ id j, pos C0.H.length S id = some j → ∃ hj : j < T.length, T[j] = id := by
    intro id j hj
    have := pos_some hj
    obtain ⟨h1, h2⟩ := List.getElem?_eq_some_iff.1 this
    exact ⟨h1, h2⟩
  have hA : Anew C0.H.length S C C' := by
    refine ⟨rfl, rfl, fun id j hj => ?_, hG, fun id k hk hl hn => ?_⟩
    · obtain ⟨hjT, hid⟩ := hpos id j hj
      have hjH : j < H'.length := by rw [hlen]; exact hjT
      refine ⟨hjH, by show C.β (T.getD j 0) = _; rw [hT j hjH, hid], fun k sh es he => ?_, fun es he => ?_, fun sh es he => ?_⟩
      rotate_right
      · obtain ⟨_, b, h1, h2, _⟩ := blk j _ he
        rw [hid] at h1
        rcases h2 with ⟨sh', x, x', rfl, e, _⟩ | ⟨rfl, _⟩
        · cases e
        · exact h1
      · obtain ⟨_, b, h1, h2, _⟩ := blk j _ he
        rw [hid] at h1
        rcases h2 with ⟨sh', x, x', rfl, e, _⟩ | ⟨rfl, _⟩
        · cases e; exact ⟨_, h1, rfl⟩
        · exact ⟨_, h1, rfl⟩
      · obtain ⟨_, b, h1, h2, _⟩ := blk j _ he
        rw [hid] at h1
        rcases h2 with ⟨sh', x, x', rfl, e, _⟩ | ⟨rfl, _⟩
        · cases e
        · exact h1
    · refine ⟨hC.lt hk hl, hC.notF id k hk hl, ?_⟩
      rintro ⟨j, b', hj, hjl, hb⟩
      obtain ⟨hjT, b0, h1, h2, h3⟩ := blk j b' hj
      have : T[j] = id := hC.inj _ _ _ _ h1 hk ((blive h2).1 hjl) hl (h3 ▸ hb)
      exact pos_none hn (this ▸ List.getElem_mem hjT)
  have conv : ∀ {b b' : Blk}, CvBlk C0.H.length S C.H b b' → ∀ {k : RK} {sh : Sh} {es : List AV}, b' = .row k sh es → ∃ es0, b = .row k sh es0 ∧ es0.length = es.length ∧
      ∀ (i : Nat) (h0 : i < es0.length) (h1 : i < es.length), (k = .box ∧ CvA C0.H.length S C.H es0[i] es[i]) ∨ (es0[i] = es[i] ∧ k ≠ .box) := by
    intro b b' hc k sh es he
    rcases hc with ⟨sh', x, x', rfl, rfl, hx⟩ | ⟨rfl, hnb⟩
    · cases he
      refine ⟨[x], rfl, rfl, fun i h0 h1 => ?_⟩
      simp at h0; subst h0
      exact .inl ⟨rfl, hx⟩
    · subst he
      exact ⟨es, rfl, rfl, fun i h0 h1 => .inr ⟨rfl, fun hk => by subst hk; exact hnb _ _ rfl⟩⟩
  refine ⟨C', rfl, rfl, hA, ?_, ?_⟩
  · refine ⟨hE.F, hE.os, hE.tape, hE.output, hE.size, ?_, fun id hid => ?_, hE.keep, fun id k hid hk hl => ?_, fun id k sh es hid he => ?_, fun id es hid he => ?_, fun id sh es hid he => ?_⟩
    rotate_right
    · obtain ⟨hjT, b0, h1, h2, h3⟩ := blk id _ he
      have : T[id] = id := by simp only [T]; rw [List.getElem_append_left (by simpa using hid)]; simp
      rw [this] at h1
      rcases h2 with ⟨sh', x, x', rfl, e, _⟩ | ⟨rfl, _⟩
      · cases e
      · rcases hE.ros id sh es hid h1 with h4 | ⟨k, es0, h4, h5, h6⟩
        · exact .inl h4
        · exact .inr ⟨k, es0, h4, h5, fun hl => (h6 hl).mono fun b hb => ⟨hG b hb, rfl⟩⟩
    · show C0.H.length ≤ H'.length
      rw [hlen]; simp
    · have hidT : id < T.length := by simp [T]; omega
      show C.β (T.getD id 0) = _
      rw [hT id (by rw [hlen]; exact hidT)]
      have : T[id] = id := by simp only [T]; rw [List.getElem_append_left (by simpa using hid)]; simp
      rw [this]
      exact hE.beta id hid
    · obtain ⟨hjT, b0, h1, h2, h3⟩ := blk id k hk
      have h4 : C0.H.length ≤ T[id] := by
        simp only [T]
        rw [List.getElem_append_right (by simpa using hid)]
        simp only [Bool.and_eq_true] at hS
        exact allGe_spec S hS.2 _ (List.getElem_mem _)
      rw [h3]
      exact hE.fresh _ b0 h4 h1 ((blive h2).1 hl)
    · obtain ⟨hjT, b0, h1, h2, h3⟩ := blk id _ he
      obtain ⟨es0, rfl, hl0, _⟩ := conv h2 rfl
      have : T[id] = id := by simp only [T]; rw [List.getElem_append_left (by simpa using hid)]; simp
      rw [this] at h1
      obtain ⟨es1, h4, h5, h6⟩ := hE.rows id k sh es0 hid h1
      exact ⟨es1, h4, by omega, fun hl => h6 (Blk.live_row hl0.symm hl)⟩
    · obtain ⟨hjT, b0, h1, h2, h3⟩ := blk id _ he
      have : T[id] = id := by simp only [T]; rw [List.getElem_append_left (by simpa using hid)]; simp
      rw [this] at h1
      rcases h2 with ⟨sh', x, x', rfl, e, _⟩ | ⟨rfl, _⟩
      · cases e
      · exact hE.maps id es hid h1
  · refine ⟨fun i j k m hi hj hk hm hb => ?_, fun i k hi hk => ?_, hC.Flt, fun id k sh es he => ?_, fun id k sh es he hl => ?_, fun id es he => ?_⟩
    · obtain ⟨hiT, bi, h1, h2, h3⟩ := blk i k hi
      obtain ⟨hjT, bj, h4, h5, h6⟩ := blk j m hj
      rw [h3, h6] at hb
      have := hC.inj _ _ _ _ h1 h4 ((blive h2).1 hk) ((blive h5).1 hm) hb
      exact (List.getElem_inj hnd).1 this
    · obtain ⟨hiT, bi, h1, h2, h3⟩ := blk i k hi
      rw [h3]
      exact hC.notF _ _ h1 ((blive h2).1 hk)
    · obtain ⟨hjT, b0, h1, h2, h3⟩ := blk id _ he
      obtain ⟨es0, rfl, hl0, _⟩ := conv h2 rfl
      exact hC.sz _ _ _ _ h1
    · obtain ⟨hjT, b0, h1, h2, h3⟩ := blk id _ he
      obtain ⟨es0, rfl, hl0, hcv⟩ := conv h2 rfl
      obtain ⟨c, T', fz, hc, e1, e2, e3, hel⟩ := hC.row _ k sh es0 h1 (Blk.live_row hl0.symm hl)
      rw [h3]
      refine ⟨c, T', fz, hc, e1, by rw [← hl0]; exact e2, e3, fun i hi => ?_⟩
      have hi0 : i < es0.length := by omega
      obtain ⟨v, hv, hvp, hvs, hvc⟩ := hel i hi0
      rcases hcv i hi0 hi with ⟨hk, hx⟩ | ⟨he', hk⟩
      · exact ⟨v, hA.cvA hC hx hv, fun hkk => absurd hk hkk, hvs, hvc⟩
      · have := hvp hk
        refine ⟨v, by rw [← he']; exact (hA.RP this).RA, fun _ => by rw [← he']; exact hA.RP this, hvs, hvc⟩
    · obtain ⟨hjT, b0, h1, h2, h3⟩ := blk id _ he
      rcases h2 with ⟨sh', x, x', rfl, e, _⟩ | ⟨rfl, _⟩
      · cases e
      · obtain ⟨me, cl, h4, h5, h6⟩ := hC.map _ es h1
        rw [h3]
        refine ⟨me, cl, h4, h5, fun i hi => ?_⟩
        obtain ⟨m, h7, h8, h9⟩ := h6 i hi
        exact ⟨m, h7, hA.RP h8, hA.RP h9⟩

end
end Go.Bv
