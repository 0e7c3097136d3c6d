/- Part of the lift: an abstract walk of the program's code, proved sound, and what it shows of this program. -/
import Derived.Test.YtkehoabgejdpgaaBvOps
namespace Go.Bv
open Go

-- what operands read as
theorem RL.nodead {C : Ctx} {v : Value} {a : AV} (h : RL C v a) (hs : a.sh ≠ none) : v.oneCell' = true := by
  cases a <;> simp only [RL] at h <;> first
    | (simp [AV.sh] at hs; done)
    | exact h.1
    | exact h.elim
    | (cases h <;> rfl)

theorem RA.shOk {C : Ctx} {v : Value} {a : AV} {sh : Sh} (h : RA C v a) (hs : isSh a sh = true) : okSh v sh := by
  unfold isSh at hs
  cases ha : a.sh with
  | none => simp [ha] at hs
  | some s =>
    simp only [ha] at hs
    cases a with
    | agg cs =>
      obtain ⟨vs, rfl, hsz, _, ho⟩ := h
      simp [AV.sh] at ha; subst ha
      cases sh with
      | leaf => simp [Sh.beq] at hs
      | agg n => simp [Sh.beq] at hs; exact ⟨vs, rfl, by omega, ho⟩
    | tup vs => simp [AV.sh] at ha
    | undef => simp [AV.sh] at ha
    | fn f caps =>
      simp [AV.sh] at ha; subst ha
      cases sh with
      | leaf => obtain ⟨cv, rfl, _⟩ := h; rfl
      | agg n => simp [Sh.beq] at hs
    | _ =>
      simp [AV.sh] at ha; subst ha
      cases sh with
      | agg n => simp [Sh.beq] at hs
      | leaf => simp only [RA, R1] at h; exact RL.nodead h (by simp [AV.sh])

theorem RT.RA {C : Ctx} {v : Value} {a : AV} (h : RT C v a) (ha : ∀ vs, a ≠ .tup vs) : RA C v a := by
  cases a <;> first | exact h | exact absurd rfl (ha _)

theorem isSh.notTup {a : AV} {sh : Sh} (hs : isSh a sh = true) : ∀ vs, a ≠ .tup vs := by
  rintro vs rfl; simp [isSh, AV.sh] at hs

theorem RL.pure {C : Ctx} {v : Value} {a : AV} (h : R1 C v a) (hp : a.pure1 = true) : RP C.w C.G v a := by
  cases a <;> simp [AV.pure1] at hp <;> exact h

theorem RA.pure {C : Ctx} {v : Value} {a : AV} (h : RA C v a) (hp : a.pure = true) : RP C.w C.G v a := by
  cases a with
  | agg cs =>
    obtain ⟨vs, rfl, hsz, hc, ho⟩ := h
    refine .agg vs cs hsz (fun i hi => ?_) ho
    simp only [AV.pure, List.all_eq_true] at hp
    exact RL.pure (hc i hi) (hp _ (List.getElem_mem hi))
  | _ => simp only [AV.pure] at hp; first | (simp [AV.pure1] at hp; done) | exact h

theorem RP.RT {C : Ctx} {v : Value} {a : AV} (r : RP C.w C.G v a) : RT C v a := by
  have h := r.RA
  cases a <;> first | exact h | (cases r; done)

theorem RP_avOf {w : World} {G : Nat → Prop} (v : Value) (h : avOf v ≠ .undef) : RP w G v (avOf v) := by
  unfold avOf at h ⊢
  split <;> first | constructor | (simp at h; done)

theorem avOf_nt (v : Value) : (∃ x, avOf v = x ∧ (∀ vs, x ≠ .agg vs) ∧ (∀ vs, x ≠ .tup vs) ∧ ∀ f c, x ≠ .fn f c) := by
  refine ⟨_, rfl, ?_⟩
  unfold avOf
  split <;> simp

theorem RL_avOf {C : Ctx} (v : Value) : RL C v (avOf v) := by
  by_cases h : avOf v = .undef
  · rw [h]; trivial
  · have := RP_avOf (w := C.w) (G := C.G) v h
    unfold avOf at this h ⊢
    split <;> first | exact this | trivial

theorem R1_avOf {C : Ctx} (v : Value) : R1 C v (avOf v) := by
  have h := RL_avOf (C := C) v
  obtain ⟨x, hx, _, _, h3⟩ := avOf_nt v
  rw [hx] at h ⊢
  cases x <;> first | exact h | exact absurd rfl (h3 _ _)

theorem RA_avOf {C : Ctx} (v : Value) : RA C v (avOf v) := by
  have h := R1_avOf (C := C) v
  obtain ⟨x, hx, h1, _, _⟩ := avOf_nt v
  rw [hx] at h ⊢
  cases x <;> first | exact h | exact absurd rfl (h1 _)

theorem RT_avOf {C : Ctx} (v : Value) : RT C v (avOf v) := by
  have h := RA_avOf (C := C) v
  obtain ⟨x, hx, _, h2, _⟩ := avOf_nt v
  rw [hx] at h ⊢
  cases x <;> first | exact h | exact absurd rfl (h2 _)

theorem RA_avOfA {C : Ctx} (v : Value) : RA C v (avOfA v) := by
  cases v with
  | agg cs =>
    simp only [avOfA]
    split
    · rename_i ho
      refine ⟨cs, rfl, by simp, fun i hi => ?_, fun i x hx => ?_⟩
      · simp at hi
        simp only [List.getElem_map, Array.getD_eq_getD_getElem?, Array.getElem?_eq_getElem hi, Option.getD_some, Array.getElem_toList]
        exact R1_avOf _
      · rw [List.all_eq_true] at ho
        exact ho x (by rw [Array.mem_toList_iff]; exact Array.mem_of_getElem? hx)
    · trivial
  | _ => exact RA_avOf _

theorem RT_avOfA {C : Ctx} (v : Value) : RT C v (avOfA v) := by
  have h := RA_avOfA (C := C) v
  have : ∀ vs, avOfA v ≠ .tup vs := by
    intro vs
    cases v <;> simp only [avOfA] <;> first | (split <;> simp; done) | (obtain ⟨x, hx, _, h2, _⟩ := avOf_nt _; rw [hx]; exact h2 _)
  generalize avOfA v = x at *
  cases x <;> first | exact h | exact absurd rfl (this _)

/-- A row that nobody writes any more reads as a list. -/
theorem RL.thaw {C : Ctx} {v : Value} {a : AV} (h : RL C v a) : RL C v (thaw C.H a) := by
  cases a with
  | own id off len =>
    simp only [Bv.thaw]
    split
    · rename_i sh es he
      exact (h.2.2.2.2 sh es he).2
    · exact h
  | _ => exact h
theorem R1.thaw {C : Ctx} {v : Value} {a : AV} (h : R1 C v a) : R1 C v (thaw C.H a) := by
  cases a with
  | own id off len =>
    have := RL.thaw (a := .own id off len) h
    simp only [Bv.thaw] at this ⊢
    split at this <;> exact this
  | _ => exact h
theorem RA.thaw {C : Ctx} {v : Value} {a : AV} (h : RA C v a) : RA C v (thaw C.H a) := by
  cases a with
  | own id off len =>
    have := RL.thaw (a := .own id off len) h
    simp only [Bv.thaw] at this ⊢
    split at this <;> exact this
  | _ => exact h
theorem RT.thaw {C : Ctx} {v : Value} {a : AV} (h : RT C v a) : RT C v (thaw C.H a) := by
  cases a with
  | own id off len =>
    have := RL.thaw (a := .own id off len) h
    simp only [Bv.thaw] at this ⊢
    split at this <;> exact this
  | _ => exact h

def FrOk (C : Ctx) (a : Act) (fr : Fr) : Prop := ∀ t, RT C (a.tmps.getD t undef) (fr.get t)

theorem FrOk.ext {C C' : Ctx} (h : Ext C C') {a : Act} {fr : Fr} (hf : FrOk C a fr) : FrOk C' a fr := fun t => h.RT (hf t)

theorem FrOk.ev {C : Ctx} {a : Act} {fr : Fr} (hf : FrOk C a fr) (x : Operand) : RT C (a.eval x) (ev fr x) := by
  cases x with
  | tmp t => exact hf t
  | const v => exact RT_avOfA v
  | global g => trivial
  | func f => exact ⟨#[], rfl, rfl, fun i h => by simp at h⟩

theorem FrOk.evT {C : Ctx} {a : Act} {fr : Fr} (hf : FrOk C a fr) (x : Operand) : RT C (a.eval x) (thaw C.H (Bv.ev fr x)) := (hf.ev x).thaw

theorem FrOk.put {C : Ctx} {a : Act} {fr : Fr} (hf : FrOk C a fr) {d : Option Tmp} {v : Value} {r : AV} (hv : RT C v r) (hd : dstOk a.tmps.size d = true) : FrOk C (a.put d v) (fr.put d r) := by
  cases d with
  | none => exact hf
  | some d =>
    intro t
    simp only [dstOk, Nat.blt_eq] at hd
    simp only [Act.put, Fr.put, Fr.get]
    by_cases h : d = t
    · subst h; simp [hd]; exact hv
    · have hb : Nat.beq d t = false := by cases hq : Nat.beq d t with
        | false => rfl
        | true => exact absurd (Nat.eq_of_beq_eq_true hq) h
      rw [hb]
      simp only [cond_false, Array.getD_eq_getD_getElem?, Array.getElem?_setIfInBounds_ne h]
      have := hf t
      rwa [Array.getD_eq_getD_getElem?] at this

-- memory: reading
theorem run_loadCells_rep {P : Program} {w : World} {b o : Nat} {cs : Array Value} (h : ∀ j, j < cs.size → w.cell? ⟨b, o + j, none⟩ = cs[j]?) :
    (loadCells ⟨b, o, none⟩ cs.size).run P w = .ok cs w := by
  have := run_loadCells_list (P := P) (w := w) ⟨b, o, none⟩ cs.toList fun j v hj => by
    rw [Array.getElem?_toList] at hj
    have hlt := (Array.getElem?_eq_some_iff.1 hj).1
    unfold Addr.add
    split
    · rename_i h0; subst h0; have := h 0 hlt; rw [hj] at this; simpa using this
    · have := h j hlt; rw [hj] at this; simpa using this
  simpa using this

-- memory: writing
def writeAt (c : Array Value) (o : Nat) : List Value → Array Value
  | [] => c
  | v :: r => writeAt (c.setIfInBounds o v) (o + 1) r

theorem writeAt_size : ∀ (l : List Value) (c : Array Value) (o : Nat), (writeAt c o l).size = c.size
  | [], _, _ => rfl
  | v :: r, c, o => by simp [writeAt, writeAt_size r]

theorem writeAt_get : ∀ (l : List Value) (c : Array Value) (o i : Nat), o + l.length ≤ c.size →
    (writeAt c o l)[i]? = if o ≤ i ∧ i < o + l.length then l[i - o]? else c[i]?
  | [], c, o, i, _ => by simp [writeAt]; intro h1 h2; omega
  | v :: r, c, o, i, h => by
    simp only [List.length_cons] at h
    rw [writeAt, writeAt_get r _ _ _ (by simp; omega)]
    simp only [List.length_cons]
    by_cases h1 : o + 1 ≤ i ∧ i < o + 1 + r.length
    · rw [if_pos h1, if_pos (by omega)]
      obtain ⟨k, rfl⟩ : ∃ k, i = o + 1 + k := ⟨i - (o + 1), by omega⟩
      rw [show o + 1 + k - (o + 1) = k by omega, show o + 1 + k - o = k + 1 by omega]
      simp
    · rw [if_neg h1]
      by_cases h2 : i = o
      · subst h2
        rw [if_pos (by omega)]
        simp only [Nat.sub_self, List.getElem?_cons_zero]
        rw [Array.getElem?_setIfInBounds_self_of_lt (by omega)]
      · rw [if_neg (by omega), Array.getElem?_setIfInBounds_ne (by omega)]

def World.write (w : World) (b : Nat) (c : Array Value) (T : TypeId) (fr : Nat × Nat) : World := { w with heap := w.heap.setIfInBounds b (.cells c T fr) }

theorem fzNot {n : Nat} {fr : Nat × Nat} (h : fr.1 = fr.2 ∨ n ≤ fr.1) : ∀ o, o < n → ¬ (fr.1 ≤ o ∧ o < fr.2) := fun o ho hh => by omega

theorem run_storeCells_rep {P : Program} {b o : Nat} {T : TypeId} {fr : Nat × Nat} : ∀ (vs : List Value) (i : Nat) (c : Array Value) (w : World), w.heap[b]? = some (.cells c T fr) → o + i + vs.length ≤ c.size →
    (∀ k, k < c.size → ¬ (fr.1 ≤ k ∧ k < fr.2)) → (∀ v ∈ vs, v.oneCell' = true) →
    (storeCells ⟨b, o, none⟩ vs i).run P w = .ok () (World.write w b (writeAt c (o + i) vs) T fr)
  | [], i, c, w, hb, _, _, _ => by
    have hw : World.write w b c T fr = w := by
      unfold World.write
      have : w.heap.setIfInBounds b (.cells c T fr) = w.heap := by
        apply Array.ext
        · simp
        · intro j h1 h2
          by_cases hj : b = j
          · subst hj
            rw [Array.getElem?_eq_getElem h2] at hb
            simp at hb
            simp [hb]
          · rw [Array.getElem_setIfInBounds_ne _ hj]
      rw [this]
    simp [storeCells, writeAt, hw]
  | v :: r, i, c, w, hb, hle, hfr, hone => by
    simp only [List.length_cons] at hle
    have hadd : Addr.add ⟨b, o, none⟩ i = ⟨b, o + i, none⟩ := by
      unfold Addr.add; split
      · rename_i h; subst h; simp
      · rfl
    have hlt : b < w.heap.size := (Array.getElem?_eq_some_iff.1 hb).1
    have hcell : w.cell? ⟨b, o + i, none⟩ = some (c[o + i]'(by omega)) := by
      simp only [World.cell?, hb, Option.isSome_none, Bool.false_eq_true, if_false]
      exact Array.getElem?_eq_getElem (by omega)
    have hfz : w.frozen? ⟨b, o + i, none⟩ = false := by
      simp only [World.frozen?, hb]
      have := hfr (o + i) (by omega)
      simp only [Bool.and_eq_false_iff, decide_eq_false_iff_not]
      by_cases h1 : fr.1 ≤ o + i
      · exact .inr fun h2 => this ⟨h1, h2⟩
      · exact .inl h1
    have hset : w.setCell ⟨b, o + i, none⟩ v = World.write w b (c.setIfInBounds (o + i) v) T fr := by
      unfold World.setCell World.write
      congr 1
      apply Array.ext
      · simp
      · intro j h1 h2
        simp only [Array.getElem_modify]
        by_cases hj : b = j
        · subst hj
          rw [Array.getElem?_eq_getElem hlt] at hb
          simp at hb
          simp [hb]
        · rw [Array.getElem_setIfInBounds_ne (by simpa using h1) hj]; simp [hj]
    have ih := run_storeCells_rep (P := P) (b := b) (o := o) (T := T) (fr := fr) r (i + 1) (c.setIfInBounds (o + i) v) (World.write w b (c.setIfInBounds (o + i) v) T fr)
      (by simp [World.write, hlt]) (by simp; omega) (by simpa using hfr) (fun u hu => hone u (by simp [hu]))
    rw [storeCells, Sem.run_bind, hadd, run_store P w _ v .plain (hone v (by simp)), hcell]
    simp only [hfz, Bool.false_eq_true, if_false, Result.andThen_ok, hset]
    rw [ih, writeAt, show o + (i + 1) = o + i + 1 by omega]
    congr 1
    simp [World.write]

-- the owned blocks: a new one
theorem add_ext {C : Ctx} (hC : HRep C) (w' : World) (hpre : ∀ b, b < C.w.heap.size → w'.heap[b]? = C.w.heap[b]?) (hsz : C.w.heap.size ≤ w'.heap.size)
    (hos : w'.os = C.w.os) (ht : w'.tape = C.w.tape) (ho : w'.output = C.w.output) (b0 : Nat) (hb0 : C.w.heap.size ≤ b0) (k : Blk) :
    Ext C ⟨w', C.F, fun i => if i = C.H.length then b0 else C.β i, C.H ++ [k]⟩ where
  F := rfl
  os := hos
  tape := ht
  output := ho
  size := hsz
  len := by simp
  beta := fun id hid => by simp [Nat.ne_of_lt hid]
  keep := fun b hb _ => hpre b hb
  fresh := fun id m hid hm _ => by
    have := (List.getElem?_eq_some_iff.1 hm).1
    simp at this
    have : id = C.H.length := by omega
    simp [this, hb0]
  rows := fun id kk sh es hid he => by
    dsimp only at he
    rw [List.getElem?_append_left hid] at he
    refine ⟨es, he, rfl, fun hl => ?_⟩
    obtain ⟨c, T, fr, hc, _⟩ := hC.row id kk sh es he hl
    have hlt := (Array.getElem?_eq_some_iff.1 hc).1
    exact ⟨c, T, fr, c, T, fr, hc, by rw [← hc]; exact hpre _ hlt, rfl⟩
  maps := fun id es hid he => by
    dsimp only at he
    rw [List.getElem?_append_left hid] at he
    exact ⟨es, he⟩
  ros := fun id sh es hid he => by
    dsimp only at he
    rw [List.getElem?_append_left hid] at he
    exact .inl he

theorem HRep.lt {C : Ctx} (hC : HRep C) {id : Nat} {k : Blk} (hk : C.H[id]? = some k) (hl : k.live) : C.β id < C.w.heap.size := by
  cases k with
  | dead => exact hl.elim
  | ro sh es => exact hl.elim
  | row kk sh es => obtain ⟨c, T, fr, hc, _⟩ := hC.row id kk sh es hk hl; exact (Array.getElem?_eq_some_iff.1 hc).1
  | map es => obtain ⟨me, cl, hc, _⟩ := hC.map id es hk; exact (Array.getElem?_eq_some_iff.1 hc).1

/-- What a row's block holds. -/
def RowAt (C : Ctx) (b : Nat) (k : RK) (sh : Sh) (es : List AV) : Prop :=
  ∃ c T fr, C.w.heap[b]? = some (.cells c T fr) ∧ (fr.1 = fr.2 ∨ c.size ≤ fr.1) ∧ es.length * sh.size ≤ c.size ∧
      (∀ (o : Nat) (x : Value), c[o]? = some x → x.oneCell' = true) ∧
      ∀ (i : Nat) (h : i < es.length), ∃ v, RA C v es[i] ∧ (k ≠ .box → RP C.w C.G v es[i]) ∧ okSh v sh ∧ ∀ j, j < sh.size → c[i * sh.size + j]? = v.cells[j]?
def MapAt (C : Ctx) (b : Nat) (es : List (AV × AV)) : Prop :=
  ∃ (me : Array MapEntry) (clock : Nat), C.w.heap[b]? = some (.map me clock) ∧ me.size = es.length ∧
      ∀ (i : Nat) (h : i < es.length), ∃ m, me[i]? = some m ∧ RP C.w C.G m.key es[i].1 ∧ RP C.w C.G m.val es[i].2

theorem RowAt.ext {C C' : Ctx} (h : Ext C C') {b : Nat} {k : RK} {sh : Sh} {es : List AV} (hb : C'.w.heap[b]? = C.w.heap[b]?) (r : RowAt C b k sh es) : RowAt C' b k sh es := by
  obtain ⟨c, T, fr, hc, h1, h2, h3, h4⟩ := r
  refine ⟨c, T, fr, hb.trans hc, h1, h2, h3, fun i hi => ?_⟩
  obtain ⟨v, hv, hp, hs, hcell⟩ := h4 i hi
  exact ⟨v, h.RA hv, fun hk => h.RP (hp hk), hs, hcell⟩
theorem MapAt.ext {C C' : Ctx} (h : Ext C C') {b : Nat} {es : List (AV × AV)} (hb : C'.w.heap[b]? = C.w.heap[b]?) (r : MapAt C b es) : MapAt C' b es := by
  obtain ⟨me, cl, hc, h1, h2⟩ := r
  refine ⟨me, cl, hb.trans hc, h1, fun i hi => ?_⟩
  obtain ⟨m, hm, hk, hv⟩ := h2 i hi
  exact ⟨m, hm, h.RP hk, h.RP hv⟩

theorem add_hrep {C : Ctx} (hC : HRep C) {w' : World} (hpre : ∀ b, b < C.w.heap.size → w'.heap[b]? = C.w.heap[b]?) (hsz : C.w.heap.size ≤ w'.heap.size)
    (hos : w'.os = C.w.os) (ht : w'.tape = C.w.tape) (ho : w'.output = C.w.output) {b0 : Nat} (hb0 : C.w.heap.size ≤ b0) {k : Blk}
    (hs : ∀ kk sh es, k = .row kk sh es → 0 < sh.size)
    (hrow : ∀ kk sh es, k = .row kk sh es → k.live → RowAt ⟨w', C.F, fun i => if i = C.H.length then b0 else C.β i, C.H ++ [k]⟩ b0 kk sh es)
    (hmap : ∀ es, k = .map es → MapAt ⟨w', C.F, fun i => if i = C.H.length then b0 else C.β i, C.H ++ [k]⟩ b0 es) :
    HRep ⟨w', C.F, fun i => if i = C.H.length then b0 else C.β i, C.H ++ [k]⟩ := by
  have hE := add_ext hC w' hpre hsz hos ht ho b0 hb0 k
  have old : ∀ {id : Nat} {m : Blk}, (C.H ++ [k])[id]? = some m → id ≠ C.H.length → C.H[id]? = some m ∧ id < C.H.length := by
    intro id m hm hne
    have hl := (List.getElem?_eq_some_iff.1 hm).1
    simp at hl
    have hlt : id < C.H.length := by omega
    rw [List.getElem?_append_left hlt] at hm
    exact ⟨hm, hlt⟩
  have new : ∀ {m : Blk}, (C.H ++ [k])[C.H.length]? = some m → m = k := by
    intro m hm; simp at hm; exact hm.symm
  refine ⟨?_, ?_, ?_, ?_, ?_, ?_⟩
  · intro i j m n hi hj hlm hln hb
    dsimp only at *
    by_cases e1 : i = C.H.length <;> by_cases e2 : j = C.H.length
    · omega
    · obtain ⟨hj', _⟩ := old hj e2
      have := hC.lt hj' hln
      simp [e1, e2] at hb
      omega
    · obtain ⟨hi', _⟩ := old hi e1
      have := hC.lt hi' hlm
      simp [e1, e2] at hb
      omega
    · obtain ⟨hi', _⟩ := old hi e1
      obtain ⟨hj', _⟩ := old hj e2
      simp [e1, e2] at hb
      exact hC.inj i j m n hi' hj' hlm hln hb
  · intro i m hi hl hF
    dsimp only at *
    by_cases e1 : i = C.H.length
    · simp [e1] at hF
      have := hC.Flt _ hF
      omega
    · obtain ⟨hi', _⟩ := old hi e1
      simp [e1] at hF
      exact hC.notF i m hi' hl hF
  · intro b hb
    exact Nat.lt_of_lt_of_le (hC.Flt b hb) hsz
  · intro id kk sh es he
    dsimp only at he
    by_cases e1 : id = C.H.length
    · subst e1; exact hs kk sh es (new he).symm
    · exact hC.sz id kk sh es (old he e1).1
  · intro id kk sh es he hl
    dsimp only at he
    by_cases e1 : id = C.H.length
    · subst e1
      have hk := new he
      have := hrow kk sh es hk.symm (hk ▸ hl)
      simpa [RowAt] using this
    · obtain ⟨he', hlt⟩ := old he e1
      have hr : RowAt C (C.β id) kk sh es := hC.row id kk sh es he' hl
      have := hr.ext hE (hpre _ (hC.lt he' hl))
      simpa [RowAt, e1] using this
  · intro id es he
    dsimp only at he
    by_cases e1 : id = C.H.length
    · subst e1
      have hk := new he
      have := hmap es hk.symm
      simpa [MapAt] using this
    · obtain ⟨he', hlt⟩ := old he e1
      have hr : MapAt C (C.β id) es := hC.map id es he'
      have := hr.ext hE (hpre _ (hC.lt he' trivial))
      simpa [MapAt, e1] using this

-- the owned blocks: one is let go
theorem kill_ext {C : Ctx} (hC : HRep C) (id : Nat) : Ext C { C with H := C.H.set id .dead } where
  F := rfl
  os := rfl
  tape := rfl
  output := rfl
  size := Nat.le_refl _
  len := by simp
  beta := fun _ _ => rfl
  keep := fun _ _ _ => rfl
  fresh := fun i k hi hk _ => by
    have := (List.getElem?_eq_some_iff.1 hk).1
    simp at this
    omega
  rows := fun i kk sh es _ he => by
    dsimp only at he
    rw [List.getElem?_set] at he
    split at he
    · split at he <;> simp at he
    · refine ⟨es, he, rfl, fun hl => ?_⟩
      obtain ⟨c, T, fr, hc, _⟩ := hC.row i kk sh es he hl
      exact ⟨c, T, fr, c, T, fr, hc, hc, rfl⟩
  maps := fun i es _ he => by
    dsimp only at he
    rw [List.getElem?_set] at he
    split at he
    · split at he <;> simp at he
    · exact ⟨es, he⟩
  ros := fun i sh es _ he => by
    dsimp only at he
    rw [List.getElem?_set] at he
    split at he
    · split at he <;> simp at he
    · exact .inl he

theorem kill_hrep {C : Ctx} (hC : HRep C) (id : Nat) : HRep { C with H := C.H.set id .dead } := by
  have hE := kill_ext hC id
  have old : ∀ {i : Nat} {m : Blk}, (C.H.set id .dead)[i]? = some m → m ≠ .dead → C.H[i]? = some m := by
    intro i m hm hne
    rw [List.getElem?_set] at hm
    split at hm
    · split at hm <;> simp at hm; exact absurd hm.symm hne
    · exact hm
  have nd : ∀ {m : Blk}, m.live → m ≠ .dead := by rintro m hl rfl; exact hl.elim
  refine ⟨?_, ?_, ?_, ?_, ?_, ?_⟩
  · intro i j m n hi hj hlm hln hb
    exact hC.inj i j m n (old hi (nd hlm)) (old hj (nd hln)) hlm hln hb
  · intro i m hi hl
    exact hC.notF i m (old hi (nd hl)) hl
  · exact hC.Flt
  · intro i kk sh es he
    exact hC.sz i kk sh es (old he (by simp))
  · intro i kk sh es he hl
    have hr : RowAt C (C.β i) kk sh es := hC.row i kk sh es (old he (by simp)) hl
    exact hr.ext hE rfl
  · intro i es he
    have hr : MapAt C (C.β i) es := hC.map i es (old he (by simp))
    exact hr.ext hE rfl

-- the owned blocks: one is written no more
theorem row_ro {C : Ctx} (hC : HRep C) {G : Nat → Prop} (hG : ∀ b, C.G b → G b) {id : Nat} {k : RK} {sh : Sh} {es : List AV} (he : C.H[id]? = some (.row k sh es)) (hk : k ≠ .box) (hl : (Blk.row k sh es).live) (hg : G (C.β id)) : RoAt C.w G (C.β id) sh es := by
  refine ⟨hg, fun i hi => ?_⟩
  obtain ⟨c, T, fr, hc, _, hsz, _, hrow⟩ := hC.row id k sh es he hl
  obtain ⟨v, _, hv, hs, hcell⟩ := hrow i hi
  refine ⟨v, (hv hk).mono fun b hb => ⟨hG b hb, rfl⟩, hs, fun j hj => ?_⟩
  simp only [World.cell?, hc, Option.isSome_none, Bool.false_eq_true, if_false]
  exact hcell j hj

theorem ro_ext {C : Ctx} (hC : HRep C) {id : Nat} {k : RK} {sh : Sh} {es : List AV} (hid : C.H[id]? = some (.row k sh es)) (hk : k ≠ .box) : Ext C { C with H := C.H.set id (.ro sh es) } where
  F := rfl
  os := rfl
  tape := rfl
  output := rfl
  size := Nat.le_refl _
  len := by simp
  beta := fun _ _ => rfl
  keep := fun _ _ _ => rfl
  fresh := fun i k hi hk _ => by
    have := (List.getElem?_eq_some_iff.1 hk).1
    simp at this
    omega
  rows := fun i kk sh es _ he => by
    dsimp only at he
    rw [List.getElem?_set] at he
    split at he
    · split at he <;> simp at he
    · refine ⟨es, he, rfl, fun hl => ?_⟩
      obtain ⟨c, T, fr, hc, _⟩ := hC.row i kk sh es he hl
      exact ⟨c, T, fr, c, T, fr, hc, hc, rfl⟩
  maps := fun i es _ he => by
    dsimp only at he
    rw [List.getElem?_set] at he
    split at he
    · split at he <;> simp at he
    · exact ⟨es, he⟩
  ros := fun i sh2 es2 hlt he => by
    dsimp only at he
    rw [List.getElem?_set] at he
    split at he
    · rename_i e; subst e
      rw [if_pos hlt] at he
      · simp only [Option.some.injEq, Blk.ro.injEq] at he
        obtain ⟨rfl, rfl⟩ := he
        refine .inr ⟨k, es, hid, rfl, fun hl => row_ro hC (fun b hb => ?_) hid hk hl ?_⟩
        · refine ⟨hb.1, hb.2.1, fun ⟨j, m, hm, hlm, e⟩ => hb.2.2 ?_⟩
          dsimp only at hm e
          rw [List.getElem?_set] at hm
          split at hm
          · (try split at hm) <;> first | (have := Option.some.inj hm; subst this; exact hlm.elim) | simp at hm
          · exact ⟨j, m, hm, hlm, e⟩
        · refine ⟨hC.lt hid hl, hC.notF _ _ hid hl, fun ⟨j, m, hm, hlm, e⟩ => ?_⟩
          dsimp only at hm e
          rw [List.getElem?_set] at hm
          split at hm
          · (try split at hm) <;> first | (have := Option.some.inj hm; subst this; exact hlm.elim) | simp at hm
          · rename_i hne
            exact hne (hC.inj j _ _ _ hm hid hlm hl e).symm
    · exact .inl he

theorem ro_hrep {C : Ctx} (hC : HRep C) {id : Nat} {k : RK} {sh : Sh} {es : List AV} (hid : C.H[id]? = some (.row k sh es)) (hk : k ≠ .box) : HRep { C with H := C.H.set id (.ro sh es) } := by
  have hE := ro_ext hC hid hk
  have old : ∀ {i : Nat} {m : Blk}, (C.H.set id (.ro sh es))[i]? = some m → m ≠ .ro sh es → C.H[i]? = some m := by
    intro i m hm hne
    rw [List.getElem?_set] at hm
    split at hm
    · split at hm <;> simp at hm; exact absurd hm.symm hne
    · exact hm
  have nd : ∀ {m : Blk}, m.live → m ≠ .ro sh es := by rintro m hl rfl; exact hl.elim
  refine ⟨?_, ?_, ?_, ?_, ?_, ?_⟩
  · intro i j m n hi hj hlm hln hb
    exact hC.inj i j m n (old hi (nd hlm)) (old hj (nd hln)) hlm hln hb
  · intro i m hi hl
    exact hC.notF i m (old hi (nd hl)) hl
  · exact hC.Flt
  · intro i kk sh2 es2 he
    exact hC.sz i kk sh2 es2 (old he (by simp))
  · intro i kk sh2 es2 he hl
    have hr : RowAt C (C.β i) kk sh2 es2 := hC.row i kk sh2 es2 (old he (by simp)) hl
    exact hr.ext hE rfl
  · intro i es2 he
    have hr : MapAt C (C.β i) es2 := hC.map i es2 (old he (by simp))
    exact hr.ext hE rfl

-- the owned blocks: one is written
theorem set_ext0 {C : Ctx} (hC : HRep C) {id : Nat} {k : RK} {sh : Sh} {es es' : List AV} (hid : C.H[id]? = some (.row k sh es)) (hl : (Blk.row k sh es).live) (hlen : es'.length = es.length)
    {c c' : Array Value} {T0 T : TypeId} {fr0 fr : Nat × Nat} (hc : C.w.heap[C.β id]? = some (.cells c T0 fr0)) (hsz : c'.size = c.size) :
    Ext C { C with w := World.write C.w (C.β id) c' T fr, H := C.H.set id (.row k sh es') } where
  F := rfl
  os := rfl
  tape := rfl
  output := rfl
  size := by simp [World.write]
  len := by simp
  beta := fun _ _ => rfl
  keep := fun b hb ho => by
    have : C.β id ≠ b := fun e => ho ⟨id, _, hid, hl, e⟩
    simp [World.write, Array.getElem?_setIfInBounds_ne this]
  fresh := fun i m hi hm _ => by
    have := (List.getElem?_eq_some_iff.1 hm).1
    simp at this
    omega
  rows := fun i kk s es2 _ he => by
    dsimp only at he
    rw [List.getElem?_set] at he
    have hlt := (Array.getElem?_eq_some_iff.1 hc).1
    split at he
    · rename_i e; subst e
      rw [if_pos (List.getElem?_eq_some_iff.1 hid).1] at he
      cases he
      exact ⟨es, hid, hlen.symm, fun _ => ⟨c, T0, fr0, c', T, fr, hc, by simp [World.write, hlt], hsz⟩⟩
    · rename_i e
      refine ⟨es2, he, rfl, fun hl2 => ?_⟩
      obtain ⟨c2, T2, fr2, hc2, _⟩ := hC.row i kk s es2 he hl2
      have : C.β id ≠ C.β i := fun h => e (hC.inj id i _ _ hid he hl hl2 h)
      exact ⟨c2, T2, fr2, c2, T2, fr2, hc2, by simp [World.write, Array.getElem?_setIfInBounds_ne this, hc2], rfl⟩
  maps := fun i es2 _ he => by
    dsimp only at he
    rw [List.getElem?_set] at he
    split at he
    · split at he <;> simp at he
    · exact ⟨es2, he⟩
  ros := fun i sh2 es2 _ he => by
    dsimp only at he
    rw [List.getElem?_set] at he
    split at he
    · split at he <;> simp at he
    · exact .inl he

theorem set_hrep0 {C : Ctx} (hC : HRep C) {id : Nat} {k : RK} {sh : Sh} {es es' : List AV} (hid : C.H[id]? = some (.row k sh es)) (hl : (Blk.row k sh es).live) (hlen : es'.length = es.length)
    {c c' : Array Value} {T0 T : TypeId} {fr0 fr : Nat × Nat} (hc : C.w.heap[C.β id]? = some (.cells c T0 fr0)) (hsz : c'.size = c.size)
    (hrow : RowAt { C with w := World.write C.w (C.β id) c' T fr, H := C.H.set id (.row k sh es') } (C.β id) k sh es') :
    HRep { C with w := World.write C.w (C.β id) c' T fr, H := C.H.set id (.row k sh es') } := by
  have hE := set_ext0 (T := T) (fr := fr) hC hid hl hlen hc hsz
  have hidl := (List.getElem?_eq_some_iff.1 hid).1
  have old : ∀ {i : Nat} {m : Blk}, (C.H.set id (.row k sh es'))[i]? = some m → (i = id ∧ m = .row k sh es') ∨ (i ≠ id ∧ C.H[i]? = some m) := by
    intro i m hm
    rw [List.getElem?_set] at hm
    split at hm
    · rename_i e; subst e
      have hm := Option.some.inj hm
      exact .inl ⟨rfl, hm.symm⟩
    · rename_i e; exact .inr ⟨fun h => e h.symm, hm⟩
  have hl' : (Blk.row k sh es').live := Blk.live_row hlen.symm hl
  have oldl : ∀ {i : Nat} {m : Blk}, (C.H.set id (.row k sh es'))[i]? = some m → m.live → ∃ m0, C.H[i]? = some m0 ∧ m0.live := by
    intro i m hm hlm
    rcases old hm with ⟨rfl, rfl⟩ | ⟨_, h⟩
    · exact ⟨_, hid, hl⟩
    · exact ⟨m, h, hlm⟩
  refine ⟨?_, ?_, ?_, ?_, ?_, ?_⟩
  · intro i j m n hi hj hlm hln hb
    obtain ⟨m0, h1, h2⟩ := oldl hi hlm
    obtain ⟨n0, h3, h4⟩ := oldl hj hln
    exact hC.inj i j m0 n0 h1 h3 h2 h4 hb
  · intro i m hi hlm
    obtain ⟨m0, h1, h2⟩ := oldl hi hlm
    exact hC.notF i m0 h1 h2
  · intro b hb
    simpa [World.write] using hC.Flt b hb
  · intro i kk s es2 he
    rcases old he with ⟨rfl, h⟩ | ⟨_, h⟩
    · cases h; exact hC.sz i _ _ _ hid
    · exact hC.sz i kk s es2 h
  · intro i kk s es2 he hl2
    rcases old he with ⟨rfl, h⟩ | ⟨e, h⟩
    · cases h; exact hrow
    · have hr : RowAt C (C.β i) kk s es2 := hC.row i kk s es2 h hl2
      have : C.β id ≠ C.β i := fun hb => e (hC.inj id i _ _ hid h hl hl2 hb).symm
      exact hr.ext hE (by simp [World.write, Array.getElem?_setIfInBounds_ne this])
  · intro i es2 he
    rcases old he with ⟨rfl, h⟩ | ⟨e, h⟩
    · cases h
    · have hr : MapAt C (C.β i) es2 := hC.map i es2 h
      have : C.β id ≠ C.β i := fun hb => e (hC.inj id i _ _ hid h hl trivial hb).symm
      exact hr.ext hE (by simp [World.write, Array.getElem?_setIfInBounds_ne this])

theorem set_ext {C : Ctx} (hC : HRep C) {id : Nat} {k : RK} {sh : Sh} {es es' : List AV} (hid : C.H[id]? = some (.row k sh es)) (hl : (Blk.row k sh es).live) (hlen : es'.length = es.length)
    {c c' : Array Value} {T : TypeId} {fr : Nat × Nat} (hc : C.w.heap[C.β id]? = some (.cells c T fr)) (hsz : c'.size = c.size) :
    Ext C { C with w := World.write C.w (C.β id) c' T fr, H := C.H.set id (.row k sh es') } := set_ext0 hC hid hl hlen hc hsz
theorem set_hrep {C : Ctx} (hC : HRep C) {id : Nat} {k : RK} {sh : Sh} {es es' : List AV} (hid : C.H[id]? = some (.row k sh es)) (hl : (Blk.row k sh es).live) (hlen : es'.length = es.length)
    {c c' : Array Value} {T : TypeId} {fr : Nat × Nat} (hc : C.w.heap[C.β id]? = some (.cells c T fr)) (hsz : c'.size = c.size)
    (hrow : RowAt { C with w := World.write C.w (C.β id) c' T fr, H := C.H.set id (.row k sh es') } (C.β id) k sh es') :
    HRep { C with w := World.write C.w (C.β id) c' T fr, H := C.H.set id (.row k sh es') } := set_hrep0 hC hid hl hlen hc hsz hrow

end Go.Bv
