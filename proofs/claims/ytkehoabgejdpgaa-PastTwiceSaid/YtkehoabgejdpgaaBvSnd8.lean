/- Part of the lift: an abstract walk of the program's code, proved sound, and what it shows of this program. -/
import Derived.Test.YtkehoabgejdpgaaBvSnd7
namespace Go.Bv
open Go

theorem growBy_le (newLen : Nat) : ∀ (rounds c : Nat), c ≤ newLen + (newLen + 768) / 4 → Builtin.growBy newLen rounds c ≤ newLen + (newLen + 768) / 4
  | 0, c, h => h
  | r + 1, c, h => by
    simp only [Builtin.growBy]
    split
    · exact h
    · exact growBy_le newLen r _ (by omega)

theorem nextcap_le {need old : Nat} (h : old < need) : Builtin.nextslicecap need old ≤ 2 * need + 192 := by
  unfold Builtin.nextslicecap
  split
  · omega
  · split
    · omega
    · have := growBy_le need 4 old (by omega)
      omega

-- a row goes on under another number, in the same block
theorem mv_ext {C : Ctx} (hC : HRep C) {id : Nat} {k : RK} {sh : Sh} {es es' : List AV} (hid : C.H[id]? = some (.row k sh es)) (hl : (Blk.row k sh es).live)
    {c c' : Array Value} {T : TypeId} {fr : Nat × Nat} (hc : C.w.heap[C.β id]? = some (.cells c T fr)) :
    Ext C ⟨World.write C.w (C.β id) c' T fr, C.F, fun i => if i = C.H.length then C.β id else C.β i, C.H.set id .dead ++ [.row k sh es']⟩ where
  F := rfl
  os := rfl
  tape := rfl
  output := rfl
  size := by simp [World.write]
  len := by simp
  beta := fun i hi => by simp [Nat.ne_of_lt hi]
  keep := fun b hb ho => by
    have : C.β id ≠ b := fun e => ho ⟨id, _, hid, hl, e⟩
    simp [World.write, Array.getElem?_setIfInBounds_ne this]
  fresh := fun i m hi hm _ => by
    have := (List.getElem?_eq_some_iff.1 hm).1
    simp at this
    have : i = C.H.length := by omega
    subst this
    exact .inr ⟨id, _, hid, hl, by simp⟩
  rows := fun i kk s es2 hi he => by
    dsimp only at he
    rw [List.getElem?_append_left (by simpa using hi), List.getElem?_set] at he
    split at he
    · split at he <;> simp at he
    · rename_i e
      refine ⟨es2, he, rfl, fun hl2 => ?_⟩
      obtain ⟨c2, T2, fr2, hc2, _⟩ := hC.row i kk s es2 he hl2
      have : C.β id ≠ C.β i := fun h => e (hC.inj id i _ _ hid he hl hl2 h)
      exact ⟨c2, T2, fr2, c2, T2, fr2, hc2, by simp [World.write, Array.getElem?_setIfInBounds_ne this, hc2], rfl⟩
  maps := fun i es2 hi he => by
    dsimp only at he
    rw [List.getElem?_append_left (by simpa using hi), List.getElem?_set] at he
    split at he
    · split at he <;> simp at he
    · exact ⟨es2, he⟩
  ros := fun i s es2 hi he => by
    dsimp only at he
    rw [List.getElem?_append_left (by simpa using hi), List.getElem?_set] at he
    split at he
    · split at he <;> simp at he
    · exact .inl he

-- a row is written behind its end, and is let be
section
variable {C : Ctx} (hC : HRep C) {id : Nat} {k : RK} {sh : Sh} {es : List AV} (hid : C.H[id]? = some (.row k sh es)) (hk : k ≠ .box) (hl : (Blk.row k sh es).live)
    {c c' : Array Value} {T0 T : TypeId} {fr0 fr : Nat × Nat} (hc : C.w.heap[C.β id]? = some (.cells c T0 fr0)) (hpre : ∀ q, q < es.length * sh.size → c'[q]? = c[q]?)
include hC hid hl hc
theorem wro_G {b : Nat} (hb : C.G b ∨ b = C.β id) : (⟨World.write C.w (C.β id) c' T fr, C.F, C.β, C.H.set id (.ro sh es)⟩ : Ctx).G b := by
  have hlt := (Array.getElem?_eq_some_iff.1 hc).1
  have hno : ¬ (⟨World.write C.w (C.β id) c' T fr, C.F, C.β, C.H.set id (.ro sh es)⟩ : Ctx).owned b := by
    rintro ⟨j, m, hm, hlm, e⟩
    dsimp only at hm e
    rw [List.getElem?_set] at hm
    split at hm
    · (try split at hm) <;> first | (have := Option.some.inj hm; subst this; exact hlm.elim) | simp at hm
    · rename_i hne
      rcases hb with hb | rfl
      · exact hb.2.2 ⟨j, m, hm, hlm, e⟩
      · exact hne (hC.inj j _ _ _ hm hid hlm hl e).symm
  rcases hb with hb | rfl
  · exact ⟨by simpa [World.write] using hb.1, hb.2.1, hno⟩
  · exact ⟨by simpa [World.write] using hlt, hC.notF _ _ hid hl, hno⟩
theorem wro_same {b : Nat} (hb : C.G b) : (World.write C.w (C.β id) c' T fr).heap[b]? = C.w.heap[b]? := by
  have _ := hC; have _ := hc
  have : C.β id ≠ b := fun e => hb.2.2 ⟨id, _, hid, hl, e⟩
  simp [World.write, Array.getElem?_setIfInBounds_ne this]
include hk hpre
theorem wro_ext : Ext C ⟨World.write C.w (C.β id) c' T fr, C.F, C.β, C.H.set id (.ro sh es)⟩ where
  F := rfl
  os := rfl
  tape := rfl
  output := rfl
  size := by simp [World.write]
  len := by simp
  beta := fun i hi => rfl
  keep := fun b hb ho => by
    have : C.β id ≠ b := fun e => ho ⟨id, _, hid, hl, e⟩
    simp [World.write, Array.getElem?_setIfInBounds_ne this]
  fresh := fun i m hi hm _ => by
    have := (List.getElem?_eq_some_iff.1 hm).1
    simp at this
    omega
  rows := fun i kk s es2 hi he => by
    dsimp only at he
    rw [List.getElem?_set] at he
    split at he
    · split at he <;> simp at he
    · rename_i e
      refine ⟨es2, he, rfl, fun hl2 => ?_⟩
      obtain ⟨c2, T2, fr2, hc2, _⟩ := hC.row i kk s es2 he hl2
      have : C.β id ≠ C.β i := fun h => e (hC.inj id i _ _ hid he hl hl2 h)
      exact ⟨c2, T2, fr2, c2, T2, fr2, hc2, by simp [World.write, Array.getElem?_setIfInBounds_ne this, hc2], rfl⟩
  maps := fun i es2 hi he => by
    dsimp only at he
    rw [List.getElem?_set] at he
    split at he
    · split at he <;> simp at he
    · exact ⟨es2, he⟩
  ros := fun i s es2 hi he => by
    dsimp only at he
    rw [List.getElem?_set] at he
    split at he
    · rename_i e; subst e
      rw [if_pos hi] at he
      simp only [Option.some.injEq, Blk.ro.injEq] at he
      obtain ⟨rfl, rfl⟩ := he
      refine .inr ⟨k, es, hid, rfl, fun _ => ⟨wro_G hC hid hl hc (.inr rfl), fun i hi => ?_⟩⟩
      obtain ⟨c2, T2, fr2, hc2, _, hsz, _, hrow⟩ := hC.row id k sh es hid hl
      rw [hc] at hc2; cases hc2
      obtain ⟨v, _, hv, hs, hcell⟩ := hrow i hi
      refine ⟨v, (hv hk).mono fun b hb => ⟨wro_G hC hid hl hc (.inl hb), wro_same hC hid hl hc hb⟩, hs, fun j hj => ?_⟩
      have hlt := (Array.getElem?_eq_some_iff.1 hc).1
      have hq := idx_lt hi hj
      simp only [World.cell?, World.write, Array.getElem?_setIfInBounds_self_of_lt hlt, Option.isSome_none, Bool.false_eq_true, if_false]
      rw [hpre _ hq]
      exact hcell j hj
    · exact .inl he

theorem wro_hrep : HRep ⟨World.write C.w (C.β id) c' T fr, C.F, C.β, C.H.set id (.ro sh es)⟩ := by
  have hE := wro_ext (T := T) (fr := fr) hC hid hk hl hc hpre
  have old : ∀ {i : Nat} {m : Blk}, (C.H.set id (.ro sh es))[i]? = some m → m ≠ .ro sh es → i ≠ id ∧ C.H[i]? = some m := by
    intro i m hm hne
    rw [List.getElem?_set] at hm
    split at hm
    · split at hm <;> simp at hm; exact absurd hm.symm hne
    · rename_i e; exact ⟨fun h => e h.symm, hm⟩
  have nd : ∀ {m : Blk}, m.live → m ≠ .ro sh es := by rintro m hl rfl; exact hl.elim
  refine ⟨?_, ?_, ?_, ?_, ?_, ?_⟩
  · intro i j m n hi hj hlm hln hb
    exact hC.inj i j m n (old hi (nd hlm)).2 (old hj (nd hln)).2 hlm hln hb
  · intro i m hi hl
    exact hC.notF i m (old hi (nd hl)).2 hl
  · intro b hb
    simpa [World.write] using hC.Flt b hb
  · intro i kk sh2 es2 he
    exact hC.sz i kk sh2 es2 (old he (by simp)).2
  · intro i kk sh2 es2 he hl2
    obtain ⟨e, h⟩ := old he (by simp)
    have hr : RowAt C (C.β i) kk sh2 es2 := hC.row i kk sh2 es2 h hl2
    have hne : C.β id ≠ C.β i := fun hb => e (hC.inj id i _ _ hid h hl hl2 hb).symm
    exact hr.ext hE (by simp [World.write, Array.getElem?_setIfInBounds_ne hne])
  · intro i es2 he
    obtain ⟨e, h⟩ := old he (by simp)
    have hr : MapAt C (C.β i) es2 := hC.map i es2 h
    have hne : C.β id ≠ C.β i := fun hb => e (hC.inj id i _ _ hid h hl trivial hb).symm
    exact hr.ext hE (by simp [World.write, Array.getElem?_setIfInBounds_ne hne])
end

theorem mv_hrep {C : Ctx} (hC : HRep C) {id : Nat} {k : RK} {sh : Sh} {es es' : List AV} (hid : C.H[id]? = some (.row k sh es)) (hl : (Blk.row k sh es).live)
    {c c' : Array Value} {T : TypeId} {fr : Nat × Nat} (hc : C.w.heap[C.β id]? = some (.cells c T fr))
    (hrow : RowAt ⟨World.write C.w (C.β id) c' T fr, C.F, fun i => if i = C.H.length then C.β id else C.β i, C.H.set id .dead ++ [.row k sh es']⟩ (C.β id) k sh es') :
    HRep ⟨World.write C.w (C.β id) c' T fr, C.F, fun i => if i = C.H.length then C.β id else C.β i, C.H.set id .dead ++ [.row k sh es']⟩ := by
  have hE := mv_ext hC hid hl (es' := es') (c' := c') hc
  have old : ∀ {i : Nat} {m : Blk}, (C.H.set id .dead ++ [.row k sh es'])[i]? = some m → m ≠ .dead → (i = C.H.length ∧ m = .row k sh es') ∨ (i ≠ C.H.length ∧ i ≠ id ∧ C.H[i]? = some m) := by
    intro i m hm hne
    have hlt := (List.getElem?_eq_some_iff.1 hm).1
    simp at hlt
    rcases Nat.lt_or_ge i C.H.length with h1 | h1
    · rw [List.getElem?_append_left (by simpa using h1), List.getElem?_set] at hm
      split at hm
      · split at hm <;> simp at hm
        exact absurd hm.symm hne
      · rename_i e
        exact .inr ⟨by omega, fun h => e h.symm, hm⟩
    · have : i = C.H.length := by omega
      subst this
      have : C.H.length = (C.H.set id .dead).length := by simp
      rw [this, List.getElem?_append_right (Nat.le_refl _)] at hm
      simp at hm
      exact .inl ⟨rfl, hm.symm⟩
  have nd : ∀ {m : Blk}, m.live → m ≠ .dead := by rintro m hl rfl; exact hl.elim
  refine ⟨?_, ?_, ?_, ?_, ?_, ?_⟩
  · intro i j m n hi hj hlm hln hb
    dsimp only at *
    rcases old hi (nd hlm) with ⟨e1, rfl⟩ | ⟨e1, e2, h1⟩ <;> rcases old hj (nd hln) with ⟨e3, rfl⟩ | ⟨e3, e4, h3⟩
    · omega
    · simp [e1, e3] at hb
      exact absurd (hC.inj id j _ _ hid h3 hl hln hb).symm e4
    · simp [e1, e3] at hb
      exact absurd (hC.inj i id _ _ h1 hid hlm hl hb) e2
    · simp [e1, e3] at hb
      exact hC.inj i j m n h1 h3 hlm hln hb
  · intro i m hi hlm hF
    dsimp only at *
    rcases old hi (nd hlm) with ⟨e1, rfl⟩ | ⟨e1, e2, h1⟩
    · simp [e1] at hF
      exact hC.notF id _ hid hl hF
    · simp [e1] at hF
      exact hC.notF i m h1 hlm hF
  · intro b hb
    simpa [World.write] using hC.Flt b hb
  · intro i kk s es2 he
    rcases old he (by simp) with ⟨e1, h⟩ | ⟨_, _, h1⟩
    · cases h; exact hC.sz id _ _ _ hid
    · exact hC.sz i kk s es2 h1
  · intro i kk s es2 he hl2
    rcases old he (by simp) with ⟨e1, h⟩ | ⟨e1, e2, h1⟩
    · cases h; subst e1; simpa [RowAt] using hrow
    · have hr : RowAt C (C.β i) kk s es2 := hC.row i kk s es2 h1 hl2
      have hne : C.β id ≠ C.β i := fun hb => e2 (hC.inj id i _ _ hid h1 hl hl2 hb).symm
      have := hr.ext hE (by simp [World.write, Array.getElem?_setIfInBounds_ne hne])
      simpa [RowAt, e1] using this
  · intro i es2 he
    rcases old he (by simp) with ⟨e1, h⟩ | ⟨e1, e2, h1⟩
    · cases h
    · have hr : MapAt C (C.β i) es2 := hC.map i es2 h1
      have hne : C.β id ≠ C.β i := fun hb => e2 (hC.inj id i _ _ hid h1 hl trivial hb).symm
      have := hr.ext hE (by simp [World.write, Array.getElem?_setIfInBounds_ne hne])
      simpa [MapAt, e1] using this

section
variable {P : Program} (Γ : Tab P) {C : Ctx} (hC : HRep C) {a : Act} {fr : Fr} (hf : FrOk C a fr) {o : Oper} {next : AV → List Blk → Prop}

/-- What is appended: where its cells come from. -/
structure Src (P : Program) (C : Ctx) (sh : Sh) (t1 : TypeId) (v : Value) (e : TypeId) (z : Value) (xs : List AV) (cells : Array Value) (zeros : Bool) : Prop where
  d : (zeros = false ∧ (P.underlying t1 = some .string ∨ ∃ e', P.underlying t1 = some (.slice e'))) ∨ (zeros = true ∧ ∃ k, P.underlying t1 = some (.int k))
  lay : Lay C.w C.G sh cells xs
  num : zeros = true → ∃ k n, v = .int k n ∧ 0 ≤ n ∧ n ≤ 2 ^ 46 ∧ n.toNat = xs.length ∧ cells = Builtin.zeroCells z.cells xs.length
  len : zeros = false → ∀ w, (Builtin.lenOf v).run P w = .ok xs.length w
  first : zeros = false → ∀ w', w'.heap = C.w.heap → (Builtin.firstCells sh.size xs.length v).run P w' = .ok cells w'

include hC in
/-- The append itself, onto a slice of n elements that reads as `old`. -/
theorem append_run {t0 t1 e : TypeId} {i' : TypeInfo} {sh : Sh} {z : Value} {bytes : Nat} (hu : P.underlying t0 = some (.slice e)) (hi : P.info? e = some i') (hisz : i'.size = sh.size) (hib : i'.bytes = bytes) (hz : i'.zero = some z) (hzs : okSh z sh)
    (hb1 : 1 ≤ bytes) (hb2 : bytes ≤ 4294967296) (hp : 0 < sh.size) {x : Value} {xs : List AV} {cells : Array Value} {zeros : Bool} (hsrc : Src P C sh t1 x e z xs cells zeros)
    {base : Option Addr} {cap : Nat} {old : List AV} {oc : Array Value} (hlay : Lay C.w C.G sh oc old) (hfirst : ∀ w', w'.heap = C.w.heap → (Builtin.firstCells sh.size old.length (.slice base old.length cap)).run P w' = .ok oc w')
    (hgrow : cap < old.length + xs.length) (hbd : (old.length + xs.length) * bytes ≤ 2 ^ 46) (ty : TypeId) :
    ∃ (w' : World) (nc : Nat) (rest : Array Value), (Builtin.append_ #[t0, t1] ty #[.slice base old.length cap, x]).run P C.w = .ok (.slice (some ⟨C.w.heap.size, 0, none⟩) (old.length + xs.length) nc) w' ∧
      (∀ b, b < C.w.heap.size → w'.heap[b]? = C.w.heap[b]?) ∧ w'.os = C.w.os ∧ w'.tape = C.w.tape ∧ w'.output = C.w.output ∧
      w'.heap[C.w.heap.size]? = some (.cells (oc ++ cells ++ rest) e) ∧ (∀ (o : Nat) (y : Value), rest[o]? = some y → y.oneCell' = true) ∧ old.length + xs.length ≤ nc ∧ nc * sh.size ≤ (oc ++ cells ++ rest).size := by
  have _ := hC
  have hle : old.length + xs.length ≤ 2 ^ 46 := Nat.le_trans (Nat.le_mul_of_pos_right _ hb1) hbd
  -- the new capacity
  let ncap := (Question.appendCap (old.length + xs.length) cap e).cut (C.w.tape C.w.drawn (.appendCap (old.length + xs.length) cap e))
  have hnc : old.length + xs.length ≤ ncap := Nat.le_add_right _ _
  refine ⟨C.w.drew.alloc (.cells (oc ++ cells ++ Builtin.zeroCells z.cells (ncap - (old.length + xs.length))) e), ncap, Builtin.zeroCells z.cells (ncap - (old.length + xs.length)), ?_, push_pre _ _, rfl, rfl, rfl, alloc_last _ _, fun o y hy => zeroCells_one hzs _ hy, hnc, ?_⟩
  · have hnx := nextcap_le hgrow
    have hbig : ¬ (Builtin.nextslicecap (old.length + xs.length) cap * bytes > 2 ^ 48) := by
      have h1 : Builtin.nextslicecap (old.length + xs.length) cap * bytes ≤ (2 * (old.length + xs.length) + 192) * bytes := Nat.mul_le_mul_right _ hnx
      have h2 : (2 * (old.length + xs.length) + 192) * bytes = 2 * ((old.length + xs.length) * bytes) + 192 * bytes := by rw [Nat.add_mul, Nat.mul_assoc]
      omega
    have hmax : ¬ (((old.length + xs.length : Nat) : Int) > IntKind.i64.max ∧ (zeros = true ∨ bytes = 0)) := by
      intro hh
      have : IntKind.i64.max = 9223372036854775807 := by decide
      omega
    have hdrew : ∀ (q : Question), q.forced = false → (choose q).run P C.w = .ok (q.cut (C.w.tape C.w.drawn q)) C.w.drew := by
      intro q hq; rw [run_choose, hq]; rfl
    have hq := hdrew (.appendCap (old.length + xs.length) cap e) rfl
    have hfo := hfirst C.w.drew rfl
    rcases hsrc.d with ⟨rfl, hd⟩ | ⟨rfl, k1, hd1⟩
    · have hlen := hsrc.len rfl C.w
      have hfx := hsrc.first rfl C.w.drew rfl
      rcases hd with hd1 | ⟨e1, hd1⟩
      all_goals
        simp only [Builtin.append_, Sem.run_bind, List.getElem?_toArray, List.getElem?_cons_zero, List.getElem?_cons_succ, run_und C.w hu, Result.andThen_ok, run_sz C.w hi, run_und C.w hd1, Sem.run_pure, Bool.false_eq_true, if_false, hlen, Sem.run_ite]
        rw [if_neg (by omega)]
        simp only [run_ti C.w hi, Result.andThen_ok, hib]
        rw [if_neg (by simpa using hmax), if_neg hbig]
        simp only [hq, Result.andThen_ok, run_ti C.w.drew hi, run_askRoom, hisz, hfo, Bool.not_false, if_true, hfx, run_zero C.w.drew hi hz, newRow, Sem.run_bind, run_newObj, Sem.run_pure, World.alloc_eq, World.size_drew]
        rfl
    · obtain ⟨k, n, rfl, hn0, hn1, hnl, rfl⟩ := hsrc.num rfl
      have hw : IntKind.i64.wrap n = n := by unfold IntKind.wrap; simp [IntKind.bits, IntKind.signed]; omega
      have hnb : ¬ (n * (bytes : Int) > 2 ^ 48) := by
        have h1 : n.toNat * bytes ≤ (old.length + xs.length) * bytes := Nat.mul_le_mul_right _ (by omega)
        have h2 : ((n.toNat * bytes : Nat) : Int) = n * bytes := by rw [Int.natCast_mul, Int.toNat_of_nonneg hn0]
        omega
      have hzc : (if xs.length * sh.size = 0 then (Result.ok #[] C.w.drew : Result (Array Value)) else Result.ok (Builtin.zeroCells z.cells xs.length) C.w.drew) = Result.ok (Builtin.zeroCells z.cells xs.length) C.w.drew := by
        split
        · rename_i h0
          have : Builtin.zeroCells z.cells xs.length = #[] := by apply Array.eq_empty_of_size_eq_zero; rw [zeroCells_size, hzs.size]; exact h0
          rw [this]
        · rfl
      simp only [Builtin.append_, Sem.run_bind, List.getElem?_toArray, List.getElem?_cons_zero, List.getElem?_cons_succ, run_und C.w hu, Result.andThen_ok, run_sz C.w hi, run_und C.w hd1, Sem.run_pure, if_true, asInt, asIntOf, hw, Sem.run_ite]
      rw [if_neg (by omega)]
      simp only [run_ti C.w hi, Result.andThen_ok, hib]
      rw [if_neg hnb, hnl, if_neg (by omega), if_neg (by simpa using hmax), if_neg hbig]
      simp only [hq, Result.andThen_ok, run_ti C.w.drew hi, run_askRoom, hisz, hfo, Bool.not_true, Bool.false_eq_true, if_false, run_zero C.w.drew hi hz, newRow, Sem.run_bind, run_newObj, Sem.run_pure, World.alloc_eq, World.size_drew, hzc]
      rfl
  · have : (oc ++ cells ++ Builtin.zeroCells z.cells (ncap - (old.length + xs.length))).size = (old.length + xs.length) * sh.size + (ncap - (old.length + xs.length)) * sh.size := by
      simp [hlay.1, hsrc.lay.1, zeroCells_size, hzs.size, Nat.add_mul]; omega
    rw [this, ← Nat.add_mul]
    exact Nat.mul_le_mul_right _ (by omega)


include hC in
/-- The append where there is room. -/
theorem append_fits {t0 t1 e : TypeId} {i' : TypeInfo} {sh : Sh} {z : Value} {bytes : Nat} (hu : P.underlying t0 = some (.slice e)) (hi : P.info? e = some i') (hisz : i'.size = sh.size) (hib : i'.bytes = bytes) (hz : i'.zero = some z) (hzs : okSh z sh)
    (hb2 : bytes ≤ 4294967296) (hb1 : 1 ≤ bytes) {x : Value} {xs : List AV} {cells : Array Value} {zeros : Bool} (hsrc : Src P C sh t1 x e z xs cells zeros) (hxb : zeros = true → xs.length * bytes ≤ 2 ^ 46)
    {base : Option Addr} {len cap : Nat} (hfit : len + xs.length ≤ cap) (ty : TypeId) {w' : World}
    (hst : (match base with | some ad => storeCells (ad.add (len * sh.size)) cells.toList | none => pure ()).run P C.w = .ok () w') :
    (Builtin.append_ #[t0, t1] ty #[.slice base len cap, x]).run P C.w = .ok (.slice base (len + xs.length) cap) w' := by
  have _ := hC
  rcases hsrc.d with ⟨rfl, hd⟩ | ⟨rfl, k1, hd1⟩
  · have hlen := hsrc.len rfl C.w
    have hfx := hsrc.first rfl C.w rfl
    rcases hd with hd1 | ⟨e1, hd1⟩
    all_goals
      simp only [Builtin.append_, Sem.run_bind, List.getElem?_toArray, List.getElem?_cons_zero, List.getElem?_cons_succ, run_und C.w hu, Result.andThen_ok, run_sz C.w hi, run_und C.w hd1, Sem.run_pure, Bool.false_eq_true, if_false, hlen, Sem.run_ite]
      rw [if_pos hfit]
      simp only [hisz, Bool.not_false, if_true, hfx, Result.andThen_ok]
      cases base with
      | none => simp at hst; simp [hst]
      | some ad => simp only [Sem.run_bind]; rw [hst]; rfl
  · obtain ⟨k, n, rfl, hn0, hn1, hnl, rfl⟩ := hsrc.num rfl
    have hw : IntKind.i64.wrap n = n := by unfold IntKind.wrap; simp [IntKind.bits, IntKind.signed]; omega
    have hnb : ¬ (n * (bytes : Int) > 2 ^ 48) := by
      have h2 : ((n.toNat * bytes : Nat) : Int) = n * bytes := by rw [Int.natCast_mul, Int.toNat_of_nonneg hn0]
      rw [hnl] at h2
      have := hxb rfl
      omega
    have hzc : (if xs.length * sh.size = 0 then (Result.ok #[] C.w : Result (Array Value)) else Result.ok (Builtin.zeroCells z.cells xs.length) C.w) = Result.ok (Builtin.zeroCells z.cells xs.length) C.w := by
      split
      · rename_i h0
        have : Builtin.zeroCells z.cells xs.length = #[] := by apply Array.eq_empty_of_size_eq_zero; rw [zeroCells_size, hzs.size]; exact h0
        rw [this]
      · rfl
    simp only [Builtin.append_, Sem.run_bind, List.getElem?_toArray, List.getElem?_cons_zero, List.getElem?_cons_succ, run_und C.w hu, Result.andThen_ok, run_sz C.w hi, run_und C.w hd1, Sem.run_pure, if_true, asInt, asIntOf, hw, Sem.run_ite]
    rw [if_neg (by omega)]
    simp only [run_ti C.w hi, Result.andThen_ok, hib]
    rw [if_neg hnb, hnl, if_pos hfit]
    simp only [hisz, Bool.not_true, Bool.false_eq_true, if_false, run_zero C.w hi hz, Result.andThen_ok, hzc]
    cases base with
    | none => simp at hst; simp [hst]
    | some ad => simp only [Sem.run_bind]; rw [hst]; rfl

end
end Go.Bv
