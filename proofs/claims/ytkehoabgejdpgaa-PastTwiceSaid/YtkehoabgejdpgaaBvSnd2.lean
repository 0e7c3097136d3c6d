/- Part of the lift: an abstract walk of the program's code, proved sound, and what it shows of this program. -/
import Derived.Test.YtkehoabgejdpgaaBvSnd1
import Derived.Laws.StructEq
import Derived.Laws.Cover1
namespace Go.Bv
open Go

/-- The operation comes to the value r and leaves H'. -/
def Yield (P : Program) (o : Oper) (a : Act) (C : Ctx) (r : AV) (H' : List Blk) : Prop :=
  ∀ (K : Act → World → Prop) (Q : Exit → Act → World → Prop),
    (∀ v C', C'.H = H' → Ext C C' → HRep C' → RT C' v r → K (a.put o.dst v) C'.w) → o.wp P a C.w K Q

theorem Yield.of {P : Program} {o : Oper} {a : Act} {C C' : Ctx} {r : AV} {v : Value} (h : (execOp a.eval o).run P C.w = .ok (.value v) C'.w)
    (hE : Ext C C') (hC' : HRep C') (hv : RT C' v r) : Yield P o a C r C'.H := by
  intro K Q hk
  unfold Oper.wp
  rw [h]
  exact hk v C' rfl hE hC' hv

theorem Yield.same {P : Program} {o : Oper} {a : Act} {C : Ctx} (hC : HRep C) {r : AV} {v : Value} (h : (execOp a.eval o).run P C.w = .ok (.value v) C.w)
    (hv : RT C v r) : Yield P o a C r C.H := Yield.of h (Ext.refl C hC) hC hv

theorem Yield.skip {P : Program} {o : Oper} {a : Act} {C C' : Ctx} (h : (execOp a.eval o).run P C.w = .ok .skip C'.w)
    (hE : Ext C C') (hC' : HRep C') : Yield P o a C .undef C'.H := by
  intro K Q hk
  unfold Oper.wp
  rw [h]
  exact hk undef C' rfl hE hC' trivial

def Snd (P : Program) (o : Oper) (a : Act) (C : Ctx) (next : AV → List Blk → Prop) : Prop := ∃ r H', next r H' ∧ Yield P o a C r H'

theorem ND.elim {p : Prop} [Decidable p] {T E : Prop} (h : ND p T E) : (decide p = true ∧ T) ∨ (decide p = false ∧ E) := by
  cases h with
  | yes h hn => exact .inl ⟨decide_eq_true h, hn⟩
  | no h hn => exact .inr ⟨decide_eq_false h, hn⟩
theorem ND.elimb {b : Bool} {T E : Prop} (h : ND (b = true) T E) : (b = true ∧ T) ∨ (b = false ∧ E) := by
  cases h with
  | yes h hn => exact .inl ⟨h, hn⟩
  | no h hn => exact .inr ⟨by simpa using h, hn⟩
theorem NB.elim {b : Bool} {T E : Prop} (h : NB b T E) : (b = true ∧ T) ∨ (b = false ∧ E) := by
  cases b
  · exact .inr ⟨rfl, h⟩
  · exact .inl ⟨rfl, h⟩

-- inversions
section
variable {C : Ctx} {v : Value}
theorem RT.bool {b : Bool} (h : RT C v (.bool b)) : v = .bool b := by
  have h : RP C.w C.G v (.bool b) := h
  cases h; rfl
theorem RT.int {k : IntKind} {n : Int} (h : RT C v (.int k n)) : v = .int k n := by
  have h : RP C.w C.G v (.int k n) := h
  cases h; rfl
theorem RT.str {s : List UInt8} (h : RT C v (.str s)) : ∃ b : ByteArray, v = .string b ∧ b.data.toList = s := by
  have h : RP C.w C.G v (.str s) := h
  cases h with | str b => exact ⟨b, rfl, rfl⟩
theorem RT.nils (h : RT C v .nils) : v = .slice none 0 0 := by
  have h : RP C.w C.G v .nils := h
  cases h; rfl
theorem RT.ptr {id i o : Nat} (h : RT C v (.ptr id i o)) {k : RK} {sh : Sh} {es : List AV} (hid : C.H[id]? = some (.row k sh es)) : v = .pointer (some ⟨C.β id, i * sh.size + o, none⟩) := h.2.2 k sh es hid
theorem RT.agg {cs : List AV} (h : RT C v (.agg cs)) : ∃ vs : Array Value, v = .agg vs ∧ vs.size = cs.length ∧ (∀ (i : Nat) (h : i < cs.length), R1 C (vs.getD i undef) cs[i]) ∧
      ∀ (i : Nat) (x : Value), vs[i]? = some x → x.oneCell' = true := h
theorem RP.int' {w : World} {G : Nat → Prop} {k : IntKind} {n : Int} (h : RP w G v (.int k n)) : v = .int k n := by cases h; rfl
theorem R1.RT {a : AV} (h : R1 C v a) (ha : ∀ cs, a ≠ .agg cs) (ht : ∀ vs, a ≠ .tup vs) : Bv.RT C v a := by
  cases a <;> first | exact h | exact absurd rfl (ha _) | exact absurd rfl (ht _)
theorem R1.nag {a : AV} (h : Bv.R1 C v a) : (∀ cs, a ≠ .agg cs) ∧ ∀ vs, a ≠ .tup vs := by
  cases a <;> simp
  · exact h
  · exact h
theorem R1.RT' {a : AV} (h : R1 C v a) : Bv.RT C v a := h.RT h.nag.1 h.nag.2
end

-- the basic runs
section
variable {P : Program} (w : World)
theorem run_und {t : TypeId} {d : TypeDesc} (h : P.underlying t = some d) : (underlying t).run P w = .ok d w := by simp [underlying, h]
theorem run_ti {t : TypeId} {i : TypeInfo} (h : P.info? t = some i) : (typeInfo t).run P w = .ok i w := by simp [typeInfo, h]
theorem run_sz {t : TypeId} {i : TypeInfo} (h : P.info? t = some i) : (sizeOf t).run P w = .ok i.size w := by simp [sizeOf, run_ti w h]
theorem run_zero {t : TypeId} {i : TypeInfo} {z : Value} (h : P.info? t = some i) (hz : i.zero = some z) : (zeroValue t).run P w = .ok z w := by simp [zeroValue, run_ti w h, hz]
theorem run_isAgg {t : TypeId} {d : TypeDesc} (h : P.underlying t = some d) : (isAgg t).run P w = .ok (isAggD d) w := by
  simp only [isAgg, Sem.run_bind, run_und w h, Result.andThen_ok]
  cases d <;> rfl
end

structure TInfo (P : Program) (t : TypeId) (ti : TI) (i : TypeInfo) (d : TypeDesc) : Prop where
  info : P.info? t = some i
  und : P.underlying t = some d
  sz : i.size = ti.sh.size
  sh : ti.sh = if isAggD d then .agg i.size else .leaf
  bytes : i.bytes = ti.bytes
  kind : ti.kind = kindOf P t d
  zero : ti.zero = match i.zero with | some z => avOfA z | none => .undef
  small : ti.bytes ≤ 4294967296

theorem Tab.info {P : Program} (Γ : Tab P) {t : TypeId} {ti : TI} (h : tget Γ.tbl t = some ti) : ∃ i d, TInfo P t ti i d := by
  have h1 := Γ.ok t ti (tget_eq _ _ _ h)
  unfold tiOf at h1
  split at h1
  · rename_i i d hi hd
    split at h1
    · simp at h1
    · rename_i hn
      simp only [Option.some.injEq] at h1
      subst h1
      simp only [Bool.or_eq_true, Bool.and_eq_true, Bool.not_eq_true', bne_iff_ne, ne_eq, decide_eq_true_eq, not_or, not_and] at hn
      refine ⟨i, d, hi, hd, ?_, rfl, rfl, rfl, rfl, by simpa using hn.2⟩
      cases hag : isAggD d with
      | true => simp [Sh.size]
      | false => simp [Sh.size]; exact Decidable.not_not.1 (hn.1 hag)
  · simp at h1

theorem TInfo.slice {P : Program} {t : TypeId} {ti : TI} {i : TypeInfo} {d : TypeDesc} (h : TInfo P t ti i d) {e : TypeId} (hk : ti.kind = .slice e) : d = .slice e := by
  have := h.kind; rw [hk] at this; cases d <;> simp only [kindOf] at this <;> first | (cases this; done) | (cases this; rfl) | (split at this <;> cases this)
theorem TInfo.map {P : Program} {t : TypeId} {ti : TI} {i : TypeInfo} {d : TypeDesc} (h : TInfo P t ti i d) {k e : TypeId} (hk : ti.kind = .map k e) : d = .map k e := by
  have := h.kind; rw [hk] at this
  cases d <;> simp only [kindOf] at this <;> first | (cases this; done) | (cases this; rfl) | (split at this <;> exact absurd this (by simp))
theorem TInfo.int {P : Program} {t : TypeId} {ti : TI} {i : TypeInfo} {d : TypeDesc} (h : TInfo P t ti i d) {k : IntKind} (hk : ti.kind = .int k) : d = .int k := by
  have := h.kind; rw [hk] at this; cases d <;> simp only [kindOf] at this <;> first | (cases this; done) | (cases this; rfl) | (split at this <;> cases this)
theorem TInfo.str {P : Program} {t : TypeId} {ti : TI} {i : TypeInfo} {d : TypeDesc} (h : TInfo P t ti i d) (hk : ti.kind = .str) : d = .string := by
  have := h.kind; rw [hk] at this; cases d <;> simp only [kindOf] at this <;> first | (cases this; done) | (cases this; rfl) | (split at this <;> cases this)
theorem TInfo.struct {P : Program} {t : TypeId} {ti : TI} {i : TypeInfo} {d : TypeDesc} (h : TInfo P t ti i d) {fs : List (Nat × Sh)} {b : Option (List Nat)} (hk : ti.kind = .struct fs b) :
    ∃ fields, d = .struct fields ∧ fs = fields.toList.map (fun f => (f.offset, shOf P f.type)) ∧
      b = (if !P.stoodInHeld t && !P.eqGuardType P.depth t then eqKinds P 0 fields.toList else none) ∧ ∀ fl ∈ fields.toList, ∃ d, P.underlying fl.type = some d ∧ (isAggD d = false → P.cellsOf fl.type = 1) := by
  have := h.kind; rw [hk] at this
  cases d <;> simp only [kindOf] at this <;> first | (cases this; done) | skip
  split at this
  · rename_i ha
    simp only [TK.struct.injEq] at this
    refine ⟨_, rfl, this.1, this.2, fun fl hfl => ?_⟩
    rw [List.all_eq_true] at ha
    have := ha fl hfl
    unfold fieldOk at this
    cases hu : P.underlying fl.type with
    | none => rw [hu] at this; simp at this
    | some d =>
      rw [hu] at this
      refine ⟨d, rfl, fun hd => ?_⟩
      simpa [hd] using this
  · exact absurd this (by simp)
theorem TInfo.zeroOk {P : Program} {t : TypeId} {ti : TI} {i : TypeInfo} {d : TypeDesc} (h : TInfo P t ti i d) {sh : Sh} (hs : isSh ti.zero sh = true) : ∃ z, i.zero = some z ∧ avOfA z = ti.zero := by
  have := h.zero
  cases hz : i.zero with
  | none => rw [hz] at this; simp only at this; rw [this] at hs; simp [isSh, AV.sh] at hs
  | some z => rw [hz] at this; exact ⟨z, rfl, this.symm⟩

theorem Sh.beq_eq {a b : Sh} (h : a.beq b = true) : a = b := by
  cases a <;> cases b <;> simp [Sh.beq] at h <;> first | rfl | rw [h]

section
variable {P : Program} (Γ : Tab P) {C : Ctx} (hC : HRep C) {a : Act} {fr : Fr} (hf : FrOk C a fr) {o : Oper} {next : AV → List Blk → Prop}
include hC hf

theorem snd_move {x : Operand} (ho : o.op = .move x ∨ o.op = .assign x) (h : force (ev fr x) fun a => next a C.H) : Snd P o a C next := by
  rw [force_eq] at h
  refine ⟨_, _, h, Yield.same hC (v := a.eval x) ?_ (hf.ev x)⟩
  rcases ho with ho | ho <;> simp [execOp, ho]

theorem snd_pick {c x y : Operand} (ho : o.op = .pick c x y) (h : aop Γ fr (.pick c x y) C.H next) : Snd P o a C next := by
  simp only [aop] at h
  split at h
  · rename_i q hq
    have hc := hf.ev c
    rw [hq] at hc
    have hc := hc.bool
    rcases h.elim with ⟨e, g⟩ | ⟨e, g⟩ <;> rw [force_eq] at g <;> subst e
    · exact ⟨_, _, g, Yield.same hC (v := a.eval x) (by simp [execOp, ho, hc, asBool]) (hf.ev x)⟩
    · exact ⟨_, _, g, Yield.same hC (v := a.eval y) (by simp [execOp, ho, hc, asBool]) (hf.ev y)⟩
  · exact h.elim

theorem snd_nilCheck {x : Operand} (ho : o.op = .nilCheck x) (h : aop Γ fr (.nilCheck x) C.H next) : Snd P o a C next := by
  simp only [aop] at h
  have hx := hf.ev x
  split at h
  · rename_i id i k hq
    rw [hq] at hx
    split at h
    · rename_i kk sh es hid
      have hv := hx.ptr hid
      exact ⟨_, _, h, Yield.same hC (v := a.eval x) (by simp [execOp, ho, hv]) hx⟩
    · exact h.elim
  · rename_i sh x' k hq
    rw [hq] at hx
    refine ⟨_, _, h, Yield.same hC (v := a.eval x) ?_ hx⟩
    have hx : RP C.w C.G (a.eval x) (.at sh x' k) := hx
    cases hv : a.eval x <;> rw [hv] at hx <;> cases hx
    simp [execOp, ho, hv]
  · exact h.elim

omit hC hf in
theorem kindBeq_eq {a b : IntKind} (h : kindBeq a b = true) : a = b := by
  cases a <;> cases b <;> first | rfl | (simp [kindBeq] at h)

omit hC hf in
theorem aopInt_snd {op : BinOp} {k : IntKind} {x y : Int} {nx : AV → Prop} (hs : op ≠ .shl ∧ op ≠ .shr) (h : aopInt op k x y nx) (t : TypeId) :
    ∃ r v, nx r ∧ (∀ w : World, (binOp op t (.int k x) (.int k y)).run P w = .ok v w) ∧ ∀ (w : World) (G : Nat → Prop), RP w G v r := by
  cases op <;> simp only [aopInt] at h <;> first
    | exact h.elim
    | (exact absurd rfl hs.1)
    | (exact absurd rfl hs.2)
    | (obtain ⟨z, rfl, hn⟩ := h; exact ⟨_, _, hn, fun w => by simp [binOp, Op.intArith], fun w G => .int _ _⟩)
    | (obtain ⟨hy, z, rfl, hn⟩ := h; exact ⟨_, _, hn, fun w => by simp [binOp, Op.intDiv, hy], fun w G => .int _ _⟩)
    | (obtain ⟨hy, hn⟩ := h; exact ⟨_, _, hn, fun w => by simp [binOp, Op.intDiv, hy], fun w G => .int _ _⟩)
    | (refine ⟨_, _, h, fun w => ?_, fun w G => .int _ _⟩; simp [binOp, Op.intBits, bitop])
    | (rcases h.elim with ⟨e, hn⟩ | ⟨e, hn⟩ <;> simp only [decide_eq_true_eq, decide_eq_false_iff_not] at e <;>
        exact ⟨_, _, hn, fun w => by simp [binOp, Op.intCmp, e], fun w G => .bool _⟩)


omit hC hf in
theorem leafEqA_snd {c : Nat} {x y : AV} {b : Bool} (h : leafEqA c x y = some b) {G : Nat → Prop} {w : World} {u v : Value} (hu : RP w G u x) (hv : RP w G v y) {t : TypeId}
    (ht : (c = 0 ∧ ∃ k, P.underlying t = some (.int k)) ∨ (c = 1 ∧ P.underlying t = some .string) ∨ (c = 2 ∧ P.underlying t = some .bool)) (d : Nat) (w : World) :
    (Op.equalIn (d + 1) t u v).run P w = .ok b w := by
  unfold leafEqA at h
  split at h
  · split at h
    · rename_i hk
      have := kindBeq_eq hk; subst this
      cases hu; cases hv
      simp only [Option.some.injEq] at h
      rcases ht with ⟨_, k, hk⟩ | ⟨h1, _⟩ | ⟨h1, _⟩
      · rw [run_equalIn_int w d t _ k _ _ hk]; rw [← h]; congr 1
      · simp at h1
      · simp at h1
    · simp at h
  · cases hu; cases hv
    simp only [Option.some.injEq] at h
    rcases ht with ⟨h1, _⟩ | ⟨_, hk⟩ | ⟨h1, _⟩
    · simp at h1
    · rw [run_equalIn_string w d t _ _ hk, ← h, ByteArray.toList_eq, ByteArray.toList_eq]; congr 1; rw [Bool.eq_iff_iff]; simp
    · simp at h1
  · cases hu; cases hv
    simp only [Option.some.injEq] at h
    rcases ht with ⟨h1, _⟩ | ⟨h1, _⟩ | ⟨_, hk⟩
    · simp at h1
    · simp at h1
    · rw [run_equalIn_bool' w d t _ _ hk, ← h]
  · simp at h

omit hC hf in
theorem leafEqA_pure {c : Nat} {x y : AV} {b : Bool} (h : leafEqA c x y = some b) : x.pure1 = true ∧ y.pure1 = true := by
  unfold leafEqA at h
  split at h <;> first | exact ⟨rfl, rfl⟩ | (simp at h)

omit hC hf in
theorem eqKs_cons {sub : List Field → Option (List Nat)} {i : Nat} {f : Field} {r : List Field} {ks : List Nat} (h : eqKs P sub i (f :: r) = some ks) :
    f.name ≠ "_" ∧ f.offset = i ∧ ((∃ c ks', ks = c :: ks' ∧ eqKs P sub (i + 1) r = some ks' ∧
      ((c = 0 ∧ ∃ k, P.underlying f.type = some (.int k)) ∨ (c = 1 ∧ P.underlying f.type = some .string) ∨ (c = 2 ∧ P.underlying f.type = some .bool))) ∨
      ∃ fs ks1 ks', ks = ks1 ++ ks' ∧ P.underlying f.type = some (.struct fs) ∧ sub fs.toList = some ks1 ∧ ks1.length = P.cellsOf f.type ∧ P.stoodInHeld f.type = false ∧ eqKs P sub (i + ks1.length) r = some ks') := by
  simp only [eqKs] at h
  split at h
  · rename_i hc
    simp only [Bool.and_eq_true, bne_iff_ne, ne_eq] at hc
    refine ⟨hc.1, Nat.eq_of_beq_eq_true hc.2, ?_⟩
    split at h
    · rename_i k hk
      simp only [Option.map_eq_some_iff] at h
      obtain ⟨ks', h1, rfl⟩ := h
      exact .inl ⟨0, ks', rfl, h1, .inl ⟨rfl, _, hk⟩⟩
    · rename_i hk
      simp only [Option.map_eq_some_iff] at h
      obtain ⟨ks', h1, rfl⟩ := h
      exact .inl ⟨1, ks', rfl, h1, .inr (.inl ⟨rfl, hk⟩)⟩
    · rename_i hk
      simp only [Option.map_eq_some_iff] at h
      obtain ⟨ks', h1, rfl⟩ := h
      exact .inl ⟨2, ks', rfl, h1, .inr (.inr ⟨rfl, hk⟩)⟩
    · rename_i fs hk
      split at h
      · rename_i ks1 hs
        split at h
        · rename_i hl
          simp only [Bool.and_eq_true, Bool.not_eq_true'] at hl
          simp only [Option.map_eq_some_iff] at h
          obtain ⟨ks', h1, rfl⟩ := h
          exact .inr ⟨fs, ks1, ks', rfl, hk, hs, Nat.eq_of_beq_eq_true hl.1, hl.2, h1⟩
        · simp at h
      · simp at h
    · simp at h
  · simp at h

omit hC hf in
theorem allEqA_split : ∀ (ks1 ks2 : List Nat) (xs ys : List AV) (b : Bool), allEqA (ks1 ++ ks2) xs ys = some b →
    ∃ b1 b2, allEqA ks1 (xs.take ks1.length) (ys.take ks1.length) = some b1 ∧ allEqA ks2 (xs.drop ks1.length) (ys.drop ks1.length) = some b2 ∧ b = (b1 && b2)
  | [], ks2, xs, ys, b, h => ⟨true, b, by simp [allEqA], by simpa using h, by simp⟩
  | k :: r, ks2, xs, ys, b, h => by
    cases xs with
    | nil => cases ys <;> simp [allEqA] at h
    | cons x xs =>
    cases ys with
    | nil => simp [allEqA] at h
    | cons y ys =>
      simp only [List.cons_append, allEqA] at h
      split at h
      · rename_i c hc
        split at h
        · rename_i d hd
          obtain ⟨b1, b2, h1, h2, h3⟩ := allEqA_split r ks2 xs ys d hd
          simp only [Option.some.injEq] at h
          refine ⟨c && b1, b2, ?_, by simpa using h2, by rw [← h, h3, Bool.and_assoc]⟩
          simp only [List.length_cons, List.take_succ_cons, allEqA, hc, h1]
        · simp at h
      · simp at h

omit hC hf in
theorem allEqA_len : ∀ (ks : List Nat) (xs ys : List AV) (b : Bool), allEqA ks xs ys = some b → xs.length = ks.length ∧ ys.length = ks.length
  | [], xs, ys, b, h => by cases xs <;> cases ys <;> simp [allEqA] at h ⊢
  | k :: r, xs, ys, b, h => by
    cases xs with
    | nil => cases ys <;> simp [allEqA] at h
    | cons x xs =>
    cases ys with
    | nil => simp [allEqA] at h
    | cons y ys =>
      simp only [allEqA] at h
      split at h
      · split at h
        · rename_i d hd
          obtain ⟨h1, h2⟩ := allEqA_len r xs ys d hd
          simp [h1, h2]
        · simp at h
      · simp at h

omit hC hf in
theorem run_part_leaf {t : TypeId} {d : TypeDesc} (h : P.underlying t = some d) (hd : isAggD d = false) {cs : Array Value} {off : Nat} {v : Value} (hv : cs[off]? = some v) (w : World) :
    (part t cs off).run P w = .ok v w := by
  simp [part, run_isAgg w h, hd, hv]

omit hC hf in
/-- The fields of a struct are compared: what 'sub' says of structs within. -/
def EqGood (P : Program) (sub : List Field → Option (List Nat)) (d : Nat) : Prop := ∀ (fs : List Field) (ks : List Nat) (us vs : Array Value) (xs ys : List AV) (b : Bool) (w0 : World) (G : Nat → Prop) (w : World), sub fs = some ks → allEqA ks xs ys = some b →
    (∀ j, (h : j < xs.length) → ∃ u, us[j]? = some u ∧ (xs[j].pure1 = true → RP w0 G u xs[j])) → (∀ j, (h : j < ys.length) → ∃ u, vs[j]? = some u ∧ (ys[j].pure1 = true → RP w0 G u ys[j])) →
    (Op.eqFields d us vs fs).run P w = .ok b w

omit hC hf in
theorem allEqA_sndS {sub : List Field → Option (List Nat)} (d : Nat) (hsub : EqGood P sub d) (w0 : World) (G : Nat → Prop) (w : World) : ∀ (fs : List Field) (ks : List Nat) (i : Nat) (us vs : Array Value) (xs ys : List AV) (b : Bool), eqKs P sub i fs = some ks → allEqA ks xs ys = some b →
    (∀ j, (h : j < xs.length) → ∃ u, us[i + j]? = some u ∧ (xs[j].pure1 = true → RP w0 G u xs[j])) → (∀ j, (h : j < ys.length) → ∃ u, vs[i + j]? = some u ∧ (ys[j].pure1 = true → RP w0 G u ys[j])) →
    (Op.eqFields (d + 1) us vs fs).run P w = .ok b w
  | [], ks, i, us, vs, xs, ys, b, hk, h, hu, hv => by
    simp only [eqKs, Option.some.injEq] at hk
    subst hk
    cases xs <;> cases ys <;> simp [allEqA] at h
    subst h; simp [Op.eqFields]
  | f :: r, ks, i, us, vs, xs, ys, b, hk, h, hu, hv => by
    obtain ⟨hn, hoff, ⟨c, ks', rfl, hk', hc⟩ | ⟨fs, ks1, ks', rfl, hund, hs1, hlen1, hst, hk'⟩⟩ := eqKs_cons hk
    · cases xs with
      | nil => cases ys <;> simp [allEqA] at h
      | cons x r' =>
      cases ys with
      | nil => simp [allEqA] at h
      | cons y q =>
        simp only [allEqA] at h
        split at h
        · rename_i c1 hc1
          split at h
          · rename_i d1 hd1
            simp only [Option.some.injEq] at h
            obtain ⟨p1, p2⟩ := leafEqA_pure hc1
            obtain ⟨u, hu0, hu1⟩ := hu 0 (by simp)
            obtain ⟨v, hv0, hv1⟩ := hv 0 (by simp)
            simp only [Nat.add_zero] at hu0 hv0
            have hU := hu1 p1
            have hV := hv1 p2
            have hq := leafEqA_snd (P := P) hc1 hU hV hc d w
            have ih := allEqA_sndS d hsub w0 G w r ks' (i + 1) us vs r' q d1 hk' hd1
              (fun j hj => by have := hu (j + 1) (by simp; omega); simpa [Nat.add_assoc, Nat.add_comm 1 j] using this)
              (fun j hj => by have := hv (j + 1) (by simp; omega); simpa [Nat.add_assoc, Nat.add_comm 1 j] using this)
            have hd0 : ∃ dd, P.underlying f.type = some dd ∧ isAggD dd = false := by
              rcases hc with ⟨_, k, hk⟩ | ⟨_, hk⟩ | ⟨_, hk⟩ <;> exact ⟨_, hk, rfl⟩
            obtain ⟨dd, hdd, hag⟩ := hd0
            rw [← hoff] at hu0 hv0
            simp only [Op.eqFields, hn, ne_eq, not_false_eq_true, if_true, Sem.run_bind, run_part_leaf hdd hag hu0, run_part_leaf hdd hag hv0, Result.andThen_ok, hq]
            cases c1
            · simp at h; simp [h]
            · simp at h; subst h; simpa using ih
          · simp at h
        · simp at h
    · obtain ⟨b1, b2, e1, e2, hb⟩ := allEqA_split ks1 ks' xs ys b h
      obtain ⟨hlx, hly⟩ := allEqA_len _ _ _ _ h
      rw [List.length_append] at hlx hly
      obtain ⟨info, hinfo⟩ : ∃ info, P.info? f.type = some info := by
        unfold Program.underlying at hund
        cases hq : P.info? f.type with
        | none => simp [hq] at hund
        | some i => exact ⟨i, rfl⟩
      have hsz : info.size = ks1.length := by rw [hlen1]; simp [Program.cellsOf, hinfo]
      have hpart : ∀ (cs : Array Value), (part f.type cs i).run P w = .ok (.agg (cs.extract i (i + ks1.length))) w := fun cs => by
        simp [part, run_isAgg w hund, isAggD, run_sz w hinfo, hsz]
      have hF : P.fieldsOf f.type = fs := by simp [Program.fieldsOf, hund]
      have key : ∀ (cs : Array Value) (zs : List AV), zs.length = ks1.length + ks'.length → (∀ j, (h : j < zs.length) → ∃ u, cs[i + j]? = some u ∧ (zs[j].pure1 = true → RP w0 G u zs[j])) →
          ∀ j, (h : j < (zs.take ks1.length).length) → ∃ u, (cs.extract i (i + ks1.length))[j]? = some u ∧ ((zs.take ks1.length)[j].pure1 = true → RP w0 G u (zs.take ks1.length)[j]) := by
        intro cs zs hz hc j hj
        rw [List.length_take] at hj
        obtain ⟨u, hu0, hu1⟩ := hc j (by omega)
        refine ⟨u, ?_, by simpa using hu1⟩
        rw [Array.getElem?_extract, if_pos]
        · exact hu0
        · have := (Array.getElem?_eq_some_iff.1 hu0).1
          omega
      have hin := hsub fs.toList ks1 (us.extract i (i + ks1.length)) (vs.extract i (i + ks1.length)) _ _ b1 w0 G w hs1 e1 (key us xs hlx hu) (key vs ys hly hv)
      have hrun := run_equalIn_struct (P := P) w d f.type (us.extract i (i + ks1.length)) (vs.extract i (i + ks1.length)) (by rw [hF]; exact hund) hst
      rw [hF, hin] at hrun
      have ih := allEqA_sndS d hsub w0 G w r ks' (i + ks1.length) us vs (xs.drop ks1.length) (ys.drop ks1.length) b2 hk' e2
        (fun j hj => by rw [List.length_drop] at hj; have := hu (ks1.length + j) (by omega); simpa [Nat.add_assoc] using this)
        (fun j hj => by rw [List.length_drop] at hj; have := hv (ks1.length + j) (by omega); simpa [Nat.add_assoc] using this)
      simp only [Op.eqFields, hn, ne_eq, not_false_eq_true, if_true, Sem.run_bind, hoff, hpart us, hpart vs, Result.andThen_ok, hrun]
      cases b1
      · simp at hb; simp [hb]
      · simp at hb; subst hb; simpa using ih

omit hC hf in
theorem allEqA_snd (d : Nat) (w0 : World) (G : Nat → Prop) (w : World) (fs : List Field) (ks : List Nat) (us vs : Array Value) (xs ys : List AV) (b : Bool) (hk : eqKinds P 0 fs = some ks) (h : allEqA ks xs ys = some b)
    (hu : ∀ j, (h : j < xs.length) → ∃ u, us[j]? = some u ∧ (xs[j].pure1 = true → RP w0 G u xs[j])) (hv : ∀ j, (h : j < ys.length) → ∃ u, vs[j]? = some u ∧ (ys[j].pure1 = true → RP w0 G u ys[j])) :
    (Op.eqFields (d + 3) us vs fs).run P w = .ok b w :=
  allEqA_sndS (d + 2) (fun fs ks us vs xs ys b w0 G w hk h hu hv => allEqA_sndS (d + 1) (fun fs ks us vs xs ys b w0 G w hk => by simp at hk) w0 G w fs ks 0 us vs xs ys b hk h
    (fun j hj => by simpa using hu j hj) (fun j hj => by simpa using hv j hj)) w0 G w fs ks 0 us vs xs ys b hk h (fun j hj => by simpa using hu j hj) (fun j hj => by simpa using hv j hj)

omit hC hf in
theorem run_eqGuard_plain {op : BinOp} {t : TypeId} {x y : Operand} {u v : Value} (h : ∀ cs ds, ¬ (u = .agg cs ∧ v = .agg ds)) (hn : ¬ (u = .nilIface ∧ v = .nilIface)) (w : World) : (eqGuard op t x y u v).run P w = .ok () w := by
  unfold eqGuard
  cases op <;> simp
  all_goals (split <;> first | (exact absurd ⟨rfl, rfl⟩ hn) | (exact absurd ⟨rfl, rfl⟩ (h _ _)) | simp)


omit hC hf in
theorem equalIn_nils {t e : TypeId} (h : P.underlying t = some (.slice e)) (d : Nat) (w : World) : (Op.equalIn (d + 1) t (.slice none 0 0) (.slice none 0 0)).run P w = .ok true w := by
  simp [Op.equalIn, run_und w h]
omit hC hf in
theorem equalIn_none {t e : TypeId} (h : P.underlying t = some (.slice e)) (d : Nat) (w : World) (n c : Nat) : (Op.equalIn (d + 1) t (.slice none n c) (.slice none 0 0)).run P w = .ok true w := by
  simp [Op.equalIn, run_und w h]
omit hC hf in
theorem equalIn_some {t e : TypeId} (h : P.underlying t = some (.slice e)) (d : Nat) (w : World) (ad : Addr) (n c : Nat) : (Op.equalIn (d + 1) t (.slice (some ad) n c) (.slice none 0 0)).run P w = .ok false w := by
  simp [Op.equalIn, run_und w h]

omit hC hf in
theorem lbeq (x y : List UInt8) : (x == y) = decide (x = y) := by rw [Bool.eq_iff_iff]; simp

omit hC hf in
theorem bindOk {α : Type} {x : Sem Unit} {y : Sem α} {w : World} {v : α} (h1 : x.run P w = .ok () w) (h2 : y.run P w = .ok v w) : (do x; y : Sem α).run P w = .ok v w := by
  rw [Sem.run_bind, h1, Result.andThen_ok, h2]

omit hf in
theorem snd_bin {op : BinOp} {t : TypeId} {x y : Operand} {yt : TypeId} (ho : o.op = .binOp op t x y yt) {u v r : Value} (hu : a.eval x = u) (hv : a.eval y = v)
    (hg : ∀ cs ds, ¬ (u = .agg cs ∧ v = .agg ds)) (hn : ¬ (u = .nilIface ∧ v = .nilIface)) (hr : (binOp op t u v).run P C.w = .ok r C.w) {q : AV} (hq : RT C r q) (hx : next q C.H) : Snd P o a C next :=
  ⟨q, _, hx, Yield.same hC (v := r) (by
    simp only [execOp, ho, hu, hv]
    rw [Sem.run_bind, bindOk (run_eqGuard_plain hg hn C.w) hr]; rfl) hq⟩

theorem snd_binOp {op : BinOp} {t : TypeId} {x y : Operand} {yt : TypeId} (ho : o.op = .binOp op t x y yt) (h : aop Γ fr (.binOp op t x y yt) C.H next) : Snd P o a C next := by
  simp only [aop] at h
  have hx := hf.ev x
  have hy := hf.ev y
  split at h
  · rename_i sh by' kd ze hti
    unfold aopBin at h
    split at h
    · -- numbers
      rename_i ka n hxe
      rw [hxe] at hx
      split at h
      · rename_i kb m hye
        rw [hye] at hy
        have hx := hx.int
        have hy := hy.int
        split at h
        · obtain ⟨h0, h⟩ := h
          refine snd_bin hC ho hx hy (by simp) (by simp) (r := .int ka _) ?_ (RP.int (w := C.w) (G := C.G) ka _).RT h
          simp [binOp, Op.shift, Int.not_lt.2 h0]
        · obtain ⟨h0, h⟩ := h
          refine snd_bin hC ho hx hy (by simp) (by simp) (r := .int ka _) ?_ (RP.int (w := C.w) (G := C.G) ka _).RT h
          simp [binOp, Op.shift, Int.not_lt.2 h0]
        · rename_i hne1 hne2
          split at h
          · rename_i hk
            have hk := kindBeq_eq hk; subst hk
            obtain ⟨r, v, hn, hrun, hrp⟩ := aopInt_snd (P := P) ⟨fun e => hne1 e, fun e => hne2 e⟩ h t
            exact snd_bin hC ho hx hy (by simp) (by simp) (hrun C.w) (hrp C.w C.G).RT hn
          · exact h.elim
      · exact h.elim
    · -- texts
      rename_i s hxe
      rw [hxe] at hx
      split at h
      · rename_i s' hye
        rw [hye] at hy
        obtain ⟨b, hb, rfl⟩ := hx.str
        obtain ⟨b', hb', rfl⟩ := hy.str
        have fin : ∀ {r : Value} {q : AV}, (binOp op t (.string b) (.string b')).run P C.w = .ok r C.w → RP C.w C.G r q → next q C.H → Snd P o a C next :=
          fun hr hq hn => snd_bin hC ho hb hb' (by simp) (by simp) hr hq.RT hn
        split at h
        · obtain ⟨h0, h⟩ := h
          refine fin (r := .string (b ++ b')) ?_ ?_ h
          · have : ¬ (((b.size + b'.size : Nat) : Int) > IntKind.i64.max) := by
              have e1 : b.data.toList.length = b.size := by simp
              have e2 : b'.data.toList.length = b'.size := by simp
              rw [e1, e2] at h0; omega
            simp only [binOp, Op.stringOp]
            rw [if_neg this]; rfl
          · have := RP.str (w := C.w) (G := C.G) (b ++ b')
            simpa using this
        all_goals try first | (rcases h.elimb with ⟨e, g⟩ | ⟨e, g⟩ <;> refine fin (by simp only [binOp, Op.stringOp, ByteArray.toList_eq, lbeq]; rfl) ?_ g <;> (rw [e]; exact .bool _)) | (rcases h.elim with ⟨e, g⟩ | ⟨e, g⟩ <;> refine fin (by simp only [binOp, Op.stringOp, ByteArray.toList_eq, lbeq]; rfl) ?_ g <;> (rw [e]; exact .bool _))
        · exact h.elim
      · exact h.elim
    · -- bools
      rename_i b hxe
      rw [hxe] at hx
      split at h
      · rename_i b' hye
        rw [hye] at hy
        have hx := hx.bool
        have hy := hy.bool
        split at h
        · obtain ⟨i, d, hi⟩ := Γ.info hti
          have hd := hi.kind
          have hd : d = .bool := by cases d <;> simp only [kindOf] at hd <;> first | (cases hd; done) | (cases hd; rfl) | (split at hd <;> cases hd)
          have hu := hi.und
          rw [hd] at hu
          have hrun : ∀ w : World, (Op.equal t (.bool b) (.bool b')).run P w = .ok (b == b') w := fun w => run_equalIn_bool' w 9999 t b b' hu
          split at h
          · rcases h.elimb with ⟨e, g⟩ | ⟨e, g⟩ <;>
              exact snd_bin hC ho hx hy (by simp) (by simp) (by simp only [binOp, Sem.run_bind, hrun, Result.andThen_ok, e]; rfl) (RP.bool (w := C.w) (G := C.G) _).RT g
          · rcases h.elimb with ⟨e, g⟩ | ⟨e, g⟩ <;>
              exact snd_bin hC ho hx hy (by simp) (by simp) (by simp only [binOp, Sem.run_bind, hrun, Result.andThen_ok, e]; rfl) (RP.bool (w := C.w) (G := C.G) _).RT g
          · exact h.elim
        · exact h.elim
      · exact h.elim
    · -- structs
      rename_i cs hxe
      rw [hxe] at hx
      split at h
      · rename_i ds hye
        rw [hye] at hy
        split at h
        · rename_i fs ks
          obtain ⟨i, d, hi⟩ := Γ.info hti
          obtain ⟨fields, rfl, hfs, heq, _⟩ := hi.struct rfl
          obtain ⟨us, hu, husz, huc, _⟩ := hx.agg
          obtain ⟨vs, hv, hvsz, hvc, _⟩ := hy.agg
          split at heq
          · rename_i hok
            simp only [Bool.and_eq_true, Bool.not_eq_true'] at hok
            split at h
            · rename_i c hc
              have hF : P.fieldsOf t = fields := by simp [Program.fieldsOf, hi.und]
              have hrun := run_equalIn_struct (P := P) C.w 9999 t us vs (by rw [hF]; exact hi.und) hok.1
              rw [hF, allEqA_snd (P := P) 9996 C.w C.G C.w fields.toList ks us vs cs ds c heq.symm hc
                (fun j hj => ⟨us.getD j undef, by simp [Array.getD_eq_getD_getElem?, Array.getElem?_eq_getElem (show j < us.size by omega)], fun hp => RL.pure (huc j hj) hp⟩)
                (fun j hj => ⟨vs.getD j undef, by simp [Array.getD_eq_getD_getElem?, Array.getElem?_eq_getElem (show j < vs.size by omega)], fun hp => RL.pure (hvc j hj) hp⟩)] at hrun
              have fin : ∀ {b : Bool}, (binOp op t (.agg us) (.agg vs)).run P C.w = .ok (.bool b) C.w → next (.bool b) C.H → Snd P o a C next := by
                intro b hb hn
                refine ⟨_, _, hn, Yield.same hC (v := .bool b) ?_ (RP.bool (w := C.w) (G := C.G) b).RT⟩
                simp only [execOp, ho, hu, hv]
                rw [Sem.run_bind, bindOk (run_eqGuard_agg C.w op t x y us vs hok.2) hb]; rfl
              split at h
              · rcases h.elimb with ⟨e, g⟩ | ⟨e, g⟩ <;> subst e <;> exact fin (by rw [run_eql_struct, hrun]; rfl) g
              · rcases h.elimb with ⟨e, g⟩ | ⟨e, g⟩ <;> subst e <;> exact fin (by rw [run_neq_struct, hrun]; rfl) g
              · exact h.elim
            · exact h.elim
          · simp at heq
        · exact h.elim
      · exact h.elim
    · -- nil slices
      rename_i hxe
      rw [hxe] at hx
      split at h
      · rename_i hye
        rw [hye] at hy
        have hx := hx.nils
        have hy := hy.nils
        split at h
        · obtain ⟨i, d, hi⟩ := Γ.info hti
          have hd := hi.slice rfl; subst hd
          have hrun : ∀ w : World, (Op.equal t (.slice none 0 0) (.slice none 0 0)).run P w = .ok true w := fun w => equalIn_nils hi.und 9999 w
          split at h
          · exact snd_bin hC ho hx hy (by simp) (by simp) (by simp only [binOp, Sem.run_bind, hrun, Result.andThen_ok]; rfl) (RP.bool (w := C.w) (G := C.G) _).RT h
          · exact snd_bin hC ho hx hy (by simp) (by simp) (by simp only [binOp, Sem.run_bind, hrun, Result.andThen_ok]; rfl) (RP.bool (w := C.w) (G := C.G) _).RT h
          · exact h.elim
        · exact h.elim
      · exact h.elim
    · rename_i sh' l hxe
      rw [hxe] at hx
      split at h
      · rename_i hye
        rw [hye] at hy
        have hy := hy.nils
        split at h
        · obtain ⟨i, d, hi⟩ := Γ.info hti
          have hd := hi.slice rfl; subst hd
          have some_of : (l = [] ∧ ∃ n c, a.eval x = .slice none n c) ∨ ∃ ad n c, a.eval x = .slice (some ad) n c := by
            have hx : RP C.w C.G (a.eval x) (.list sh' l) := hx
            generalize a.eval x = u at hx
            cases hx with
            | list0 _ ad c => cases ad with
              | none => exact .inl ⟨rfl, _, _, rfl⟩
              | some ad => exact .inr ⟨_, _, _, rfl⟩
            | list => exact .inr ⟨_, _, _, rfl⟩
          have hrun : ∀ (ad : Addr) (n c : Nat) (w : World), (Op.equal t (.slice (some ad) n c) (.slice none 0 0)).run P w = .ok false w := fun ad n c w => equalIn_some hi.und 9999 w ad n c
          have hrun0 : ∀ (n c : Nat) (w : World), (Op.equal t (.slice none n c) (.slice none 0 0)).run P w = .ok true w := fun n c w => equalIn_none hi.und 9999 w n c
          split at h
          · obtain ⟨h1, h2⟩ := h
            rcases some_of with ⟨hl, n, c, hu⟩ | ⟨ad, n, c, hu⟩
            · exact snd_bin hC ho hu hy (by simp) (by simp) (by simp only [binOp, Sem.run_bind, hrun0, Result.andThen_ok]; rfl) (RP.bool (w := C.w) (G := C.G) _).RT (h1 hl)
            · exact snd_bin hC ho hu hy (by simp) (by simp) (by simp only [binOp, Sem.run_bind, hrun, Result.andThen_ok]; rfl) (RP.bool (w := C.w) (G := C.G) _).RT h2
          · obtain ⟨h1, h2⟩ := h
            rcases some_of with ⟨hl, n, c, hu⟩ | ⟨ad, n, c, hu⟩
            · exact snd_bin hC ho hu hy (by simp) (by simp) (by simp only [binOp, Sem.run_bind, hrun0, Result.andThen_ok]; rfl) (RP.bool (w := C.w) (G := C.G) _).RT (h1 hl)
            · exact snd_bin hC ho hu hy (by simp) (by simp) (by simp only [binOp, Sem.run_bind, hrun, Result.andThen_ok]; rfl) (RP.bool (w := C.w) (G := C.G) _).RT h2
          · exact h.elim
        · exact h.elim
      · exact h.elim
    · exact h.elim
  · exact h.elim

end
end Go.Bv
