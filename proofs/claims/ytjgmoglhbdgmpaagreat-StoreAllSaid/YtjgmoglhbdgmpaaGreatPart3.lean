/- Part of the lift: an abstract walk of the program's code, proved sound, and what it shows of this program. -/
import Derived.Test.YtjgmoglhbdgmpaaGreatPart2
import Derived.WalkKit
import Derived.ProofKit
import Derived.OpenShut
import Derived.ShutString
import Derived.ChangeOld
import Derived.SizedLaws
import Derived.Deep.Slices
namespace Go.Bv
open Go
mutual
inductive Lent (H : List Blk) (L : Nat → Prop) : AV → AV → Prop
 | same (a : AV) : Lent H L a a
 | own {id off len : Nat} {kk : RK} {sh : Sh} {es l : List AV} (hL : L id) (hid : H[id]? = some (.row kk sh es)) (hk : kk ≠ .box) (hle : off + len ≤ es.length) (hl : l = (es.drop off).take len) : Lent H L (.own id off len) (.list sh l)
 | agg {cs cs' : List AV} (h : LentAs H L cs cs') : Lent H L (.agg cs) (.agg cs')
inductive LentAs (H : List Blk) (L : Nat → Prop) : List AV → List AV → Prop
 | nil : LentAs H L [] []
 | cons {a b : AV} {l l' : List AV} (h : Lent H L a b) (hs : LentAs H L l l') : LentAs H L (a :: l) (b :: l')
end
section
variable {H : List Blk} {L : Nat → Prop}
theorem LentAs.length : ∀ {l l' : List AV}, LentAs H L l l' → l'.length = l.length
 | _, _, .nil => rfl
 | _, _, .cons _ hs => by simp [hs.length]
theorem LentAs.get : ∀ {l l' : List AV}, LentAs H L l l' → ∀ (i : Nat) (h : i < l.length) (h' : i < l'.length), Lent H L l[i] l'[i]
 | _, _, .nil, i, h, _ => by simp at h
 | _, _, .cons h hs, 0, _, _ => h
 | _, _, .cons h hs, i + 1, h1, h2 => hs.get i (by simpa using h1) (by simpa using h2)
end
section
variable {C C1 : Ctx} {L : Nat → Prop}
theorem lent_RL (hC : HRep C) (hw : C1.w = C.w) (hG : ∀ b, C.G b → C1.G b) (hL : ∀ id k, C.H[id]? = some k → k.live → L id → C1.G (C.β id)) {v : Value} {a a' : AV} (h : Lent C.H L a a') (ha : a'.noOwn1 = true) (r : RL C v a) : RL C1 v a' := by
 cases h with
 | same => have := low_RL hw hG r; rwa [low1_eq ha] at this
 | own hL' hid hk hle hl =>
  subst hl
  have := own_list hC hG r hid hk hle (fun hl => hL _ _ hid hl hL')
  rw [← hw] at this; exact this
 | agg => exact (show False from r).elim
theorem lent_R1 (hC : HRep C) (hw : C1.w = C.w) (hG : ∀ b, C.G b → C1.G b) (hL : ∀ id k, C.H[id]? = some k → k.live → L id → C1.G (C.β id)) {v : Value} {a a' : AV} (h : Lent C.H L a a') (ha : a'.noOwnR = true) (r : R1 C v a) : R1 C1 v a' := by
 cases h with
 | same => have := low_R1 hw hG r; rwa [lowR_eq ha] at this
 | own hL' hid hk hle hl => exact lent_RL hC hw hG hL (.own hL' hid hk hle hl) rfl r
 | agg => exact (show False from r).elim
theorem lent_RA (hC : HRep C) (hw : C1.w = C.w) (hG : ∀ b, C.G b → C1.G b) (hL : ∀ id k, C.H[id]? = some k → k.live → L id → C1.G (C.β id)) {v : Value} {a a' : AV} (h : Lent C.H L a a') (ha : a'.noOwn = true) (r : RA C v a) : RA C1 v a' := by
 cases h with
 | same => have := low_RA hw hG r; rwa [lowA_eq ha] at this
 | own hL' hid hk hle hl => exact lent_R1 hC hw hG hL (.own hL' hid hk hle hl) rfl r
 | agg h =>
  simp only [AV.noOwn, List.all_eq_true] at ha
  obtain ⟨cv, hv, hsz, hc, ho⟩ := r
  exact ⟨cv, hv, by rw [h.length]; exact hsz, fun i hi => lent_R1 hC hw hG hL (h.get i (by rw [← h.length]; exact hi) hi) (ha _ (List.getElem_mem hi)) (hc i (by rw [← h.length]; exact hi)), ho⟩
end
/-- Nothing owned has turned; new memory that nobody owns. -/
theorem grown_ext {C : Ctx} {w' : World} (hC : HRep C) (hos : w'.os = C.w.os) (ht : w'.tape = C.w.tape) (ho : w'.output = C.w.output) (hsz : C.w.heap.size ≤ w'.heap.size) (hk : ∀ b, b < C.w.heap.size → w'.heap[b]? = C.w.heap[b]?) : Ext C { C with w := w' } ∧ HRep { C with w := w' } := by
 have hE : Ext C { C with w := w' } := ⟨rfl, hos, ht, ho, hsz, Nat.le_refl _, fun _ _ => rfl, fun b hb _ => hk b hb, fun id k h1 h2 _ => by
   have := (List.getElem?_eq_some_iff.1 h2).1
   dsimp only at this; omega, fun id k sh es h1 h2 => ⟨es, h2, rfl, fun hl => by
   obtain ⟨c, T, fr, hc, _⟩ := hC.row id k sh es h2 hl
   exact ⟨c, T, fr, c, T, fr, hc, by rw [← hc]; exact hk _ (hC.lt h2 hl), rfl⟩⟩, fun id es _ h => ⟨es, h⟩, fun id sh es _ h => .inl h⟩
 refine ⟨hE, hC.inj, hC.notF, fun b h => Nat.lt_of_lt_of_le (hC.Flt b h) hsz, hC.sz, fun i k sh es he hl => ?_, fun i es he => ?_⟩
 ·obtain ⟨c, T, fr, hc, h1, h2, h3, h4⟩ := hC.row i k sh es he hl
  refine ⟨c, T, fr, by rw [← hc]; exact hk _ (hC.lt he hl), h1, h2, h3, fun j hj => ?_⟩
  obtain ⟨v, hv, hp, hs, hcell⟩ := h4 j hj
  exact ⟨v, hE.RA hv, fun hk => hE.RP (hp hk), hs, hcell⟩
 ·obtain ⟨me, cl, hm, hs, h⟩ := hC.map i es he
  refine ⟨me, cl, by rw [← hm]; exact hk _ (hC.lt he trivial), hs, fun j hj => ?_⟩
  obtain ⟨m, h1, h2, h3⟩ := h j hj
  exact ⟨m, h1, hE.RP h2, hE.RP h3⟩
/-- An owned row becomes a list for good. -/
theorem ACalls.freeze {P : Program} {f : FuncId} {args args' : List AV} {r : AV} {H H' : List Blk} (id : Nat) (h : ACalls P f args' (H.set id .dead) r H') (hl : LentAs H (· = id) args args') : ACalls P f args H r H' := by
 refine ⟨h.1, fun C hH hC cargs hsz hargs => ?_⟩
 subst hH
 have hE1 := kill_ext hC id
 have hC1 := kill_hrep hC id
 have hGid : ∀ j k, C.H[j]? = some k → k.live → j = id → ({ C with H := C.H.set id .dead } : Ctx).G (C.β j) := by
  rintro j k hk hlv rfl
  refine ⟨hC.lt hk hlv, hC.notF j _ hk hlv, ?_⟩
  rintro ⟨i, m', hj, hjl, hb⟩
  dsimp only at hj hb
  rw [List.getElem?_set] at hj
  split at hj
  ·first | (split at hj <;> simp at hj; subst hj; exact hjl) | (have hj := Option.some.inj hj; subst hj; exact hjl)
  ·rename_i hne
   exact hne (hC.inj i j _ _ hj hk hjl hlv hb).symm
 have key1 : ∀ {v a a'}, Lent C.H (· = id) a a' → RL C v a → RL { C with H := C.H.set id .dead } v a' := by
  intro v a a' h r
  cases h with
  | same => exact hE1.RL r
  | own hL' hid hk hle hl =>
   subst hl
   exact own_list hC (G := ({ C with H := C.H.set id .dead } : Ctx).G) (fun b hb => (hE1.G hb).1) r hid hk hle (fun hl => hGid _ _ hid hl hL')
  | agg => exact (show False from r).elim
 have keyR : ∀ {v a a'}, Lent C.H (· = id) a a' → R1 C v a → R1 { C with H := C.H.set id .dead } v a' := by
  intro v a a' h r
  cases h with
  | same => exact hE1.R1 r
  | own hL' hid hk hle hl => exact key1 (.own hL' hid hk hle hl) r
  | agg => exact (show False from r).elim
 refine (h.2 { C with H := C.H.set id .dead } rfl hC1 cargs (by rw [hl.length]; exact hsz) fun i hi => ?_).mono fun e w' h => ?_
 ·have r := hargs i (by rw [← hl.length]; exact hi)
  have g := hl.get i (by rw [← hl.length]; exact hi) hi
  generalize args'[i] = x' at g ⊢
  generalize args[i]'(by rw [← hl.length]; exact hi) = x at g r
  cases g with
  | same => exact hE1.RA r
  | own hL' hid hk hle hl => exact keyR (.own hL' hid hk hle hl) r
  | agg h =>
   obtain ⟨cv, hv, hsz, hc, ho⟩ := r
   exact ⟨cv, hv, by rw [h.length]; exact hsz, fun i hi => keyR (h.get i (by rw [← h.length]; exact hi) hi) (hc i (by rw [← h.length]; exact hi)), ho⟩
 ·obtain ⟨v, D, he, hw, hDH, hE, hD, hv⟩ := h
  exact ⟨v, D, he, hw, hDH, hE1.trans hE, hD, hv⟩
end Go.Bv
namespace Go.Bv
open Go
section
variable {C D : Ctx} {L : Nat → Prop}
end
/-- The answer's own rows become lists for good. -/
inductive DropT (R : List Blk) : AV → AV → Prop
 | val {a a' : AV} (h : Lent R (fun _ => True) a a') (ha : a'.noOwn = true) (hn : ∀ vs, a ≠ .tup vs) (hn' : ∀ vs, a' ≠ .tup vs) : DropT R a a'
 | tup {l l' : List AV} (h : LentAs R (fun _ => True) l l') (ha : l'.all AV.noOwn = true) : DropT R (.tup l) (.tup l')
theorem ACalls.drop {P : Program} {f : FuncId} {args : List AV} {r r' : AV} {R : List Blk} (h : ACalls P f args [] r R) (hl : DropT R r r') : ACalls P f args [] r' [] := by
 refine ⟨h.1, fun C hH hC cargs hsz hargs => ?_⟩
 refine (h.2 C hH hC cargs hsz hargs).mono fun e w' h => ?_
 obtain ⟨v, D, he, hw, rfl, hE, hD, hv⟩ := h
 have hno : ∀ (id : Nat) (k : Blk), C.H[id]? = some k → False := fun id k hk => by rw [hH] at hk; simp at hk
 have hex : Ext C { D with H := [] } := ⟨hE.F, hE.os, hE.tape, hE.output, hE.size, by rw [hH]; simp, fun id hid => by rw [hH] at hid; simp at hid, hE.keep, fun id k _ hk => by simp at hk, fun id k sh es hid => by rw [hH] at hid; simp at hid, fun id es hid => by rw [hH] at hid; simp at hid, fun id sh es hid => by rw [hH] at hid; simp at hid⟩
 have hrep : HRep { D with H := [] } := ⟨fun i j k m h => by simp at h, fun i k h => by simp at h, hD.Flt, fun i k sh es h => by simp at h, fun i k sh es h => by simp at h, fun i es h => by simp at h⟩
 have hG : ∀ b, D.G b → ({ D with H := [] } : Ctx).G b := fun b ⟨h1, h2, _⟩ => ⟨h1, h2, fun ⟨id, k, hk, _⟩ => by simp at hk⟩
 have hrow : ∀ id k, D.H[id]? = some k → k.live → True → ({ D with H := [] } : Ctx).G (D.β id) := fun id k hk hlv _ => ⟨hD.lt hk hlv, hD.notF id k hk hlv, fun ⟨id, k, hk, _⟩ => by simp at hk⟩
 refine ⟨v, { D with H := [] }, he, hw, rfl, hex, hrep, ?_⟩
 cases hl with
 | val hq ha hn hn' =>
  have h1 : RA D v r := hv.RA hn
  have := lent_RA (C1 := { D with H := [] }) hD rfl hG hrow hq ha h1
  cases r' <;> first | exact this | exact absurd rfl (hn' _)
 | tup hq ha =>
  rw [List.all_eq_true] at ha
  obtain ⟨vs, hv, hsz, hc⟩ := hv
  exact ⟨vs, hv, by rw [hq.length]; exact hsz, fun i hi => lent_RA (C1 := { D with H := [] }) hD rfl hG hrow (hq.get i (by rw [← hq.length]; exact hi) hi) (ha _ (List.getElem_mem hi)) (hc i (by rw [← hq.length]; exact hi))⟩
end Go.Bv
namespace Go.Bv
open Go
def deps (o : Oper) : List Nat := o.after.toList.filterMap fun e => if Region.binds .any e then some e.on else none
def memN : List Nat → Nat → Bool
 | [], _ => false
 | x :: r, n => match Nat.beq x n with
  | true => true
  | false => memN r n
theorem memN_iff : ∀ (l : List Nat) (n : Nat), memN l n = true ↔ n ∈ l
 | [], n => by simp [memN]
 | x :: r, n => by
  simp only [memN]
  cases hb : Nat.beq x n with
  | true => have := Nat.eq_of_beq_eq_true hb; simp [this]
  | false =>
   have : x ≠ n := fun e => by subst e; simp at hb
   simp [memN_iff r n, Ne.symm this]
def addAll : List Nat → List Nat → List Nat
 | acc, [] => acc
 | acc, x :: r => match memN acc x with
  | true => addAll acc r
  | false => addAll (x :: acc) r
/-- What lies ahead of each operation. -/
def ahead : List (List Nat) → List Oper → List (List Nat)
 | acc, [] => acc
 | acc, o :: r => ahead (acc ++ [(deps o).foldl (fun l d => addAll l (d :: acc.getD d [])) []]) r
def opTmps (op : Op) : List Tmp := op.operands.toList.filterMap fun | .tmp t => some t | _ => none
def gTmps (ops : List Oper) (o : Oper) : List Tmp := match o.guard with
 | some (j, _) => match ops[j]? with
  | some o' => match o'.dst with
   | some d => [d]
   | none => []
  | none => []
 | none => []
/-- Do they meet at a slot? -/
def meets (ops : List Oper) (a b : Oper) : Bool :=
  (match a.dst with
   | some d => memN (opTmps b.op) d || memN (gTmps ops b) d || memN b.dst.toList d
   | none => false) ||
  (match b.dst with
   | some d => memN (opTmps a.op) d || memN (gTmps ops a) d
   | none => false)
def allLt : Nat → (Nat → Bool) → Bool
 | 0, _ => true
 | n + 1, p => p n && allLt n p
theorem allLt_spec {p : Nat → Bool} : ∀ {n : Nat}, allLt n p = true → ∀ i, i < n → p i = true
 | n + 1, h, i, hi => by
  simp only [allLt, Bool.and_eq_true] at h
  rcases Nat.lt_or_ge i n with h' | h'
  ·exact allLt_spec h.2 i h'
  ·have : i = n := by omega
   subst this; exact h.1
/-- The region's own order lets slots be. -/
def drOk (ops : List Oper) (ah : List (List Nat)) : Bool :=
 allLt ops.length fun j => match ops[j]? with
  | some o => (deps o).all (Nat.blt · j) && (ah.getD j []).all (fun x => memN (deps o) x || (deps o).any fun d => memN (ah.getD d []) x) &&
    allLt j fun i => match ops[i]? with
     | some p => !meets ops p o || memN (ah.getD j []) i
     | none => true
  | none => true
/-- What an operation is to the owned blocks: nothing; it changes some (none: any); it reads some that were there. -/
inductive EvK where
 | no
 | eff (W : Option (List Nat))
 | rd (R : List Nat)
def EvK.isEff : EvK → Bool
 | .eff _ => true
 | _ => false
def touch : Option (List Nat) → List Nat → Bool
 | none, _ => true
 | some W, R => R.any (memN W)
/-- May the two come in any order that the region has? (x stands behind y in the text.) -/
def evOk (ah : List (List Nat)) (x y : Nat × EvK) : Bool :=
 match x.2, y.2 with
 | .eff _, .eff _ => memN (ah.getD x.1 []) y.1
 | .eff W, .rd R => !touch W R || memN (ah.getD x.1 []) y.1
 | .rd R, .eff W => !touch W R
 | _, _ => true
def drE (ah : List (List Nat)) : List (Nat × EvK) → Bool
 | [] => true
 | x :: r => r.all (evOk ah x) && drE ah r
def addEv (k : EvK) (i : Nat) (E : List (Nat × EvK)) : List (Nat × EvK) := match k with
 | .no => E
 | k => (i, k) :: E
/-- All blocks but some are as they were. -/
def agree (W : List Nat) : Nat → List Blk → List Blk → Prop
 | _, [], _ => True
 | i, b :: r, c :: q => (match memN W i with | true => True | false => c = b) ∧ agree W (i + 1) r q
 | _, _ :: _, [] => False
/-- Blocks of which some are known. -/
def holes (R : List Nat) (f : Nat → Blk) (T : List Blk) : Nat → List Blk → List Blk
 | _, [] => T
 | i, b :: r => (bif memN R i then b else f i) :: holes R f T (i + 1) r
theorem agree_get {W : List Nat} : ∀ {i : Nat} {H H' : List Blk}, agree W i H H' → H.length ≤ H'.length ∧ ∀ id, id < H.length → i + id ∉ W → H'[id]? = H[id]?
 | _, [], _, _ => ⟨Nat.zero_le _, fun id h => by simp at h⟩
 | i, b :: r, c :: q, ⟨h1, h2⟩ => by
  obtain ⟨h3, h4⟩ := agree_get h2
  refine ⟨by simp only [List.length_cons]; omega, fun id hid hw => ?_⟩
  cases id with
  | zero =>
   have : memN W i = false := by
    cases hm : memN W i with
    | false => rfl
    | true => exact absurd ((memN_iff _ _).1 hm) hw
   rw [this] at h1
   simp only at h1
   simp [h1]
  | succ id =>
   have := h4 id (by simpa using hid) (by rw [show i + 1 + id = i + (id + 1) by omega]; exact hw)
   simpa using this
 | _, _ :: _, [], h => h.elim
theorem holes_eq {R : List Nat} : ∀ (i : Nat) (H H' : List Blk), H.length ≤ H'.length → (∀ id, id < H.length → i + id ∈ R → H'[id]? = H[id]?) →
  ∃ f T, H' = holes R f T i H := by
 intro i H H' hl h
 refine ⟨fun j => (H'[j - i]?).getD .dead, H'.drop H.length, ?_⟩
 have key : ∀ (H : List Blk) (k : Nat), H.length + k ≤ H'.length → (∀ id, id < H.length → i + k + id ∈ R → H'[k + id]? = H[id]?) → H'.drop k = holes R (fun j => (H'[j - i]?).getD .dead) (H'.drop (k + H.length)) (i + k) H := by
  intro H
  induction H with
  | nil => intro k _ _; rfl
  | cons b r ih =>
   intro k hk hg
   simp only [List.length_cons] at hk hg ⊢
   have hlt : k < H'.length := by omega
   rw [List.drop_eq_getElem_cons hlt, holes]
   congr 1
   ·cases hm : memN R (i + k) with
    | true =>
     have := hg 0 (by omega) (by simpa using (memN_iff _ _).1 hm)
     simp only [Nat.add_zero, List.getElem?_cons_zero] at this
     rw [List.getElem?_eq_getElem hlt] at this
     simpa using this
    | false =>
     simp [List.getElem?_eq_getElem hlt]
   ·have := ih (k + 1) (by omega) (fun id hid hr => by
     have := hg (id + 1) (by omega) (by rw [show i + k + (id + 1) = i + (k + 1) + id by omega]; exact hr)
     rw [show k + 1 + id = k + (id + 1) by omega, this]; simp)
    rw [this, show k + 1 + r.length = k + (r.length + 1) by omega, show i + (k + 1) = i + k + 1 by omega]
 have := key H 0 (by omega) (fun id hid hr => by simpa using h id hid (by simpa using hr))
 simpa using this
def opFr (fr : Fr) (op : Op) : Fr := (opTmps op).map fun t => (t, fr.get t)
def lowFr (fr : Fr) : Fr := fr.map fun p => (p.1, p.2.low)
/-- An operation in a region whose order is open: it hangs on nothing owned, or it has a place in the order. -/
inductive NDr {P : Program} (Γ : Tab P) (fr : Fr) (op : Op) (H0 H : List Blk) (next : EvK → AV → List Blk → Prop) : Prop
 | pure (r : AV) (h : aop Γ (lowFr (opFr fr op)) op [] (fun a b => a = r ∧ b = [])) (hn : next .no r H)
 | any (r : AV) (h : ∀ H', aop Γ (opFr fr op) op H' (fun a b => a = r ∧ b = H')) (hn : next .no r H)
 | eff (r : AV) (H' : List Blk) (h : aop Γ (opFr fr op) op H (fun a b => a = r ∧ b = H')) (hn : next (.eff none) r H')
 | efw (W : List Nat) (r : AV) (H' : List Blk) (h : aop Γ (opFr fr op) op H (fun a b => a = r ∧ b = H')) (ha : agree W 0 H H') (hn : next (.eff (some W)) r H')
 | rd (R : List Nat) (r : AV) (h : ∀ f T, aop Γ (opFr fr op) op (holes R f T 0 H0) (fun a b => a = r ∧ b = holes R f T 0 H0)) (hn : next (.rd R) r H)
noncomputable def drun {P : Program} (Γ : Tab P) (n : Nat) (ops : List Oper) (H0 : List Blk) (l : List Oper) (i : Nat) (E : List (Nat × EvK)) (fr : Fr) (H : List Blk) (k : List (Nat × EvK) → Fr → List Blk → Prop) : Prop :=
 List.rec (motive := fun _ => Nat → List (Nat × EvK) → Fr → List Blk → (List (Nat × EvK) → Fr → List Blk → Prop) → Prop) (fun _ E fr H k => k E fr H)
  (fun o _ ih i E fr H k => match dstOk n o.dst with
   | true => aWanted ops fr o.guard (NDr Γ fr o.op H0 H fun e r H' => nrm o.op r H' fun r H' => ih (i + 1) (addEv e i E) (fr.put o.dst r) H' k) (ih (i + 1) E (fr.put o.dst (.tup [])) H k)
   | false => False) l i E fr H k
theorem drun_cons {P : Program} (Γ : Tab P) (n : Nat) (ops : List Oper) (H0 : List Blk) (o : Oper) (rest : List Oper) (i : Nat) (E : List (Nat × EvK)) (fr : Fr) (H : List Blk) (k : List (Nat × EvK) → Fr → List Blk → Prop) : drun Γ n ops H0 (o :: rest) i E fr H k = match dstOk n o.dst with
  | true => aWanted ops fr o.guard (NDr Γ fr o.op H0 H fun e r H' => nrm o.op r H' fun r H' => drun Γ n ops H0 rest (i + 1) (addEv e i E) (fr.put o.dst r) H' k) (drun Γ n ops H0 rest (i + 1) E (fr.put o.dst (.tup [])) H k)
  | false => False := rfl
noncomputable def drA {P : Program} (Γ : Tab P) (n : Nat) (ops : List Oper) (fr : Fr) (H : List Blk) (K : Fr → List Blk → Prop) : Prop :=
 NP (drOk ops (ahead [] ops) = true) (drun Γ n ops H ops 0 [] fr H fun E fr' H' => NP (drE (ahead [] ops) E = true) (K fr' H'))
theorem aWanted_det {ops : List Oper} {fr : Fr} {g : Option (Nat × Bool)} {T E : Prop} (h : aWanted ops fr g T E) : (aWanted ops fr g True False ∧ T) ∨ (aWanted ops fr g False True ∧ E) := by
 have nb : ∀ {b : Bool} {T E : Prop}, NB b T E → (NB b True False ∧ T) ∨ (NB b False True ∧ E) := by
  intro b T E h
  cases b
  ·exact .inr ⟨trivial, h⟩
  ·exact .inl ⟨trivial, h⟩
 match g with
 | none => exact .inl ⟨trivial, h⟩
 | some (j, want) =>
  simp only [aWanted] at h ⊢
  cases ho : ops[j]? with
  | none => simp only [ho] at h
  | some o =>
   simp only [ho] at h ⊢
   cases hd : o.dst with
   | none => simp only [hd] at h
   | some d =>
    simp only [hd] at h ⊢
    cases hv : fr.get d with
    | bool b =>
     simp only [hv] at h ⊢
     cases want with
     | true => exact nb h
     | false => exact (nb h).elim .inr .inl
    | tup vs =>
     simp only [hv] at h ⊢
     cases vs with
     | nil => exact .inr ⟨trivial, h⟩
     | cons _ _ => exact h.elim
    | _ => simp only [hv] at h
theorem aWanted_congr {ops : List Oper} {fr fr' : Fr} {o : Oper} {T E : Prop} (hg : ∀ d ∈ gTmps ops o, fr'.get d = fr.get d) (h : aWanted ops fr o.guard T E) : aWanted ops fr' o.guard T E := by
 cases hq : o.guard with
 | none => rw [hq] at h; exact h
 | some g =>
  obtain ⟨j, want⟩ := g
  rw [hq] at h
  simp only [gTmps, hq] at hg
  simp only [aWanted] at h ⊢
  cases ho : ops[j]? with
  | none => simp only [ho] at h
  | some o =>
   simp only [ho] at h hg ⊢
   cases hd : o.dst with
   | none => simp only [hd] at h
   | some d =>
    simp only [hd] at h hg ⊢
    rw [hg d (by simp)]; exact h
/-- What a step in the text's order did. -/
def DFact {P : Program} (Γ : Tab P) (ops : List Oper) (H0 : List Blk) (fr : Fr) (o : Oper) (H : List Blk) (e : EvK) (V : AV) (H' : List Blk) : Prop :=
  (aWanted ops fr o.guard True False ∧
    ((e = .no ∧ H' = H ∧ (aop Γ (lowFr (opFr fr o.op)) o.op [] (fun a b => a = V ∧ b = []) ∨ ∀ H', aop Γ (opFr fr o.op) o.op H' (fun a b => a = V ∧ b = H'))) ∨
     (e.isEff = true ∧ (∀ W, e = .eff (some W) → agree W 0 H H') ∧ aop Γ (opFr fr o.op) o.op H (fun a b => a = V ∧ b = H')) ∨
     (∃ R, e = .rd R ∧ H' = H ∧ ∀ f T, aop Γ (opFr fr o.op) o.op (holes R f T 0 H0) (fun a b => a = V ∧ b = holes R f T 0 H0)))) ∨
  (aWanted ops fr o.guard False True ∧ V = .tup [] ∧ e = .no ∧ H' = H)
theorem drun_ex {P : Program} (Γ : Tab P) (n : Nat) (ops : List Oper) (H0 : List Blk) : ∀ (rest : List Oper) (i : Nat) (E : List (Nat × EvK)) (fr : Fr) (H : List Blk) (k : List (Nat × EvK) → Fr → List Blk → Prop), drun Γ n ops H0 rest i E fr H k →
  ∃ (V : Nat → AV) (e : Nat → EvK) (frs : Nat → Fr) (Hs : Nat → List Blk), frs 0 = fr ∧ Hs 0 = H ∧
   (∀ (j : Nat) (o : Oper), rest[j]? = some o → dstOk n o.dst = true ∧ frs (j + 1) = (frs j).put o.dst (V j) ∧ DFact Γ ops H0 (frs j) o (Hs j) (e j) (V j) (Hs (j + 1))) ∧
   ∃ pre, k (pre ++ E) (frs rest.length) (Hs rest.length) ∧ (∀ ah, drE ah (pre ++ E) = true → ∀ j, j < rest.length → e j ≠ .no → (∀ x ∈ E, evOk ah (i + j, e j) x = true) ∧ ∀ q, q < j → e q ≠ .no → evOk ah (i + j, e j) (i + q, e q) = true)
 | [], i, E, fr, H, k, h => ⟨fun _ => .undef, fun _ => .no, fun _ => fr, fun _ => H, rfl, rfl, fun j o hj => by simp at hj, [], h, fun _ _ j hj => by simp at hj⟩
 | o :: rest, i, E, fr, H, k, h => by
  simp only [drun_cons] at h
  split at h
  ·rename_i hd
   have key : ∀ (b : EvK) (r : AV) (H' : List Blk), DFact Γ ops H0 fr o H b r H' → drun Γ n ops H0 rest (i + 1) (addEv b i E) (fr.put o.dst r) H' k →
     ∃ (V : Nat → AV) (e : Nat → EvK) (frs : Nat → Fr) (Hs : Nat → List Blk), frs 0 = fr ∧ Hs 0 = H ∧
      (∀ (j : Nat) (o' : Oper), (o :: rest)[j]? = some o' → dstOk n o'.dst = true ∧ frs (j + 1) = (frs j).put o'.dst (V j) ∧ DFact Γ ops H0 (frs j) o' (Hs j) (e j) (V j) (Hs (j + 1))) ∧
      ∃ pre, k (pre ++ E) (frs (o :: rest).length) (Hs (o :: rest).length) ∧ (∀ ah, drE ah (pre ++ E) = true → ∀ j, j < (o :: rest).length → e j ≠ .no → (∀ x ∈ E, evOk ah (i + j, e j) x = true) ∧ ∀ q, q < j → e q ≠ .no → evOk ah (i + j, e j) (i + q, e q) = true) := by
    intro b r H' hf hr
    obtain ⟨V, e, frs, Hs, h1, h2, h3, pre, h4, h7⟩ := drun_ex Γ n ops H0 rest (i + 1) _ _ _ k hr
    have hadd : ∃ l, addEv b i E = l ++ E ∧ (b ≠ .no → (i, b) ∈ l) ∧ (b ≠ .no → l = [(i, b)]) := by
     cases b with
     | no => exact ⟨[], rfl, fun h => absurd rfl h, fun h => absurd rfl h⟩
     | eff W => exact ⟨[(i, .eff W)], rfl, fun _ => by simp, fun _ => rfl⟩
     | rd R => exact ⟨[(i, .rd R)], rfl, fun _ => by simp, fun _ => rfl⟩
    obtain ⟨l, hl, hin, hone⟩ := hadd
    rw [hl] at h4 h7
    refine ⟨fun | 0 => r | j + 1 => V j, fun | 0 => b | j + 1 => e j, fun | 0 => fr | j + 1 => frs j, fun | 0 => H | j + 1 => Hs j, rfl, rfl, ?_, pre ++ l, by rw [List.append_assoc]; exact h4, ?_⟩
    ·intro j q hq
     cases j with
     | zero =>
      simp at hq; subst hq
      refine ⟨hd, h1, ?_⟩
      show DFact Γ ops H0 fr o H b r (Hs 0)
      rw [h2]; exact hf
     | succ j => exact h3 j q (by simpa using hq)
    ·intro ah hah j hj hb
     rw [List.append_assoc] at hah
     cases j with
     | zero =>
      refine ⟨?_, fun q hq => by omega⟩
      dsimp only at hb
      rw [hone hb] at hah
      have : ∀ (pre : List (Nat × EvK)), drE ah (pre ++ ([(i, b)] ++ E)) = true → ∀ x ∈ E, evOk ah (i, b) x = true := by
       intro pre hE
       induction pre with
       | nil =>
        simp only [List.nil_append, List.cons_append, drE, Bool.and_eq_true, List.all_eq_true] at hE
        exact fun x hx => hE.1 x hx
       | cons p pre ih =>
        simp only [List.cons_append, drE, Bool.and_eq_true] at hE
        exact ih hE.2
      exact this pre hah
     | succ j =>
      obtain ⟨g1, g2⟩ := h7 ah hah j (by simpa using hj) hb
      rw [show i + 1 + j = i + (j + 1) by omega] at g1 g2
      refine ⟨fun x hx => g1 x (by simp [hx]), fun q hq hb' => ?_⟩
      cases q with
      | zero => exact g1 (i, b) (by simp [hin hb'])
      | succ q =>
       have := g2 q (by omega) hb'
       rwa [show i + 1 + q = i + (q + 1) by omega] at this
   rcases aWanted_det h with ⟨hw, h⟩ | ⟨hw, h⟩
   ·rcases h with ⟨r, h, hn⟩ | ⟨r, h, hn⟩ | ⟨r, H', h, hn⟩ | ⟨W, r, H', h, ha, hn⟩ | ⟨R, r, h, hn⟩
    ·exact key .no r H (.inl ⟨hw, .inl ⟨rfl, rfl, .inl h⟩⟩) (by rwa [nrm_eq] at hn)
    ·exact key .no r H (.inl ⟨hw, .inl ⟨rfl, rfl, .inr h⟩⟩) (by rwa [nrm_eq] at hn)
    ·exact key (.eff none) r H' (.inl ⟨hw, .inr (.inl ⟨rfl, (fun W hW => by cases hW), h⟩)⟩) (by rwa [nrm_eq] at hn)
    ·exact key (.eff (some W)) r H' (.inl ⟨hw, .inr (.inl ⟨rfl, (fun W' hW => by cases hW; exact ha), h⟩)⟩) (by rwa [nrm_eq] at hn)
    ·exact key (.rd R) r H (.inl ⟨hw, .inr (.inr ⟨R, rfl, rfl, h⟩)⟩) (by rwa [nrm_eq] at hn)
   ·exact key .no (.tup []) H (.inr ⟨hw, rfl, rfl, rfl⟩) h
  ·exact h.elim
theorem Fr.get_put (fr : Fr) (d : Option Tmp) (v : AV) (t : Nat) : (fr.put d v).get t = if d = some t then v else fr.get t := by
 cases d with
 | none => simp [Fr.put]
 | some d =>
  simp only [Fr.put, Fr.get]
  cases hb : Nat.beq d t with
  | true => have := Nat.eq_of_beq_eq_true hb; simp [this]
  | false =>
   have : d ≠ t := fun e => by subst e; simp at hb
   simp [this]
theorem opFr_get (fr : Fr) (op : Op) (t : Nat) : (t ∈ opTmps op ∧ (opFr fr op).get t = fr.get t) ∨ (opFr fr op).get t = .undef := by
 unfold opFr
 induction opTmps op with
 | nil => exact .inr rfl
 | cons x r ih =>
  simp only [List.map_cons, Fr.get]
  cases hb : Nat.beq x t with
  | true =>
   have := Nat.eq_of_beq_eq_true hb
   subst this
   exact .inl ⟨by simp, rfl⟩
  | false => exact ih.imp (fun h => ⟨by simp [h.1], h.2⟩) id
theorem pick_get' (fr : Fr) (l : List Nat) (t : Nat) : (t ∈ l ∧ Fr.get (l.map fun t => (t, fr.get t)) t = fr.get t) ∨ Fr.get (l.map fun t => (t, fr.get t)) t = .undef := by
 induction l with
 | nil => exact .inr rfl
 | cons x r ih =>
  simp only [List.map_cons, Fr.get]
  cases hb : Nat.beq x t with
  | true =>
   have := Nat.eq_of_beq_eq_true hb
   subst this
   exact .inl ⟨by simp, rfl⟩
  | false => exact ih.imp (fun h => ⟨by simp [h.1], h.2⟩) (fun h => h)
theorem pick_get (t : Nat) (l : List Nat) (h : t ∈ l) (fr : Fr) : Fr.get (l.map fun t => (t, fr.get t)) t = fr.get t := by
 induction l with
 | nil => cases h
 | cons x r ih =>
  simp only [List.map_cons, Fr.get]
  cases hb : Nat.beq x t with
  | true =>
   have := Nat.eq_of_beq_eq_true hb
   subst this
   rfl
  | false =>
   have : x ≠ t := fun e => by subst e; simp at hb
   exact ih (by simpa [Ne.symm this] using h)
theorem lowFr_get (fr : Fr) (t : Nat) : (lowFr fr).get t = (fr.get t).low := by
 unfold lowFr
 induction fr with
 | nil => rfl
 | cons x r ih =>
  obtain ⟨k, v⟩ := x
  simp only [List.map_cons, Fr.get]
  cases Nat.beq k t with
  | true => rfl
  | false => exact ih
theorem sh1_eq {C : Ctx} {n : Nat} {v : Value} {a : AV} (h : C.H = []) (r : RL C v a) : a.sh1 n = a := by
 cases a <;> first | rfl | (obtain ⟨_, h2, _⟩ := r; rw [h] at h2; simp at h2)
theorem shR_eq {C : Ctx} {n : Nat} {v : Value} {a : AV} (h : C.H = []) (r : R1 C v a) : a.shR n = a := by
 cases a with
 | fn f caps =>
  obtain ⟨cv, hv, hsz, hc⟩ := r
  simp only [AV.shR, AV.fn.injEq, true_and]
  apply List.ext_getElem (by simp)
  intro i h1 h2
  simp only [List.getElem_map]
  exact sh1_eq h (hc i h2)
 | agg cs => rfl
 | tup vs => rfl
 | own _ _ _ => exact sh1_eq (C := C) (v := v) (a := .own _ _ _) h r
 | ptr _ _ _ => exact sh1_eq (C := C) (v := v) (a := .ptr _ _ _) h r
 | map _ => exact sh1_eq (C := C) (v := v) (a := .map _) h r
 | _ => rfl
theorem shA_eq {C : Ctx} {n : Nat} {v : Value} {a : AV} (h : C.H = []) (r : RA C v a) : a.shA n = a := by
 cases a with
 | agg cs =>
  obtain ⟨cv, hv, hsz, hc, _⟩ := r
  simp only [AV.shA, AV.agg.injEq]
  apply List.ext_getElem (by simp)
  intro i h1 h2
  simp only [List.getElem_map]
  exact shR_eq h (hc i h2)
 | tup vs => rfl
 | own _ _ _ => exact shR_eq (C := C) (v := v) (a := .own _ _ _) h r
 | ptr _ _ _ => exact shR_eq (C := C) (v := v) (a := .ptr _ _ _) h r
 | map _ => exact shR_eq (C := C) (v := v) (a := .map _) h r
 | fn _ _ => exact shR_eq (C := C) (v := v) (a := .fn _ _) h r
 | _ => rfl
theorem shT_eq {C : Ctx} {n : Nat} {v : Value} {a : AV} (h : C.H = []) (r : RT C v a) : a.shT n = a := by
 cases a with
 | tup cs =>
  obtain ⟨cv, hv, hsz, hc⟩ := r
  simp only [AV.shT, AV.tup.injEq]
  apply List.ext_getElem (by simp)
  intro i h1 h2
  simp only [List.getElem_map]
  exact shA_eq h (hc i h2)
 | agg _ => exact shA_eq (C := C) (v := v) (a := .agg _) h r
 | own _ _ _ => exact shA_eq (C := C) (v := v) (a := .own _ _ _) h r
 | ptr _ _ _ => exact shA_eq (C := C) (v := v) (a := .ptr _ _ _) h r
 | map _ => exact shA_eq (C := C) (v := v) (a := .map _) h r
 | fn _ _ => exact shA_eq (C := C) (v := v) (a := .fn _ _) h r
 | _ => rfl
section
variable {P : Program} (Γ : Tab P) {n : Nat} {ops : Array Oper}
/-- How many are not listed. -/
def left (listed : Array Bool) : Nat → Nat
 | 0 => 0
 | k + 1 => (if listed.getD k true then 0 else 1) + left listed k
theorem left_set {listed : Array Bool} {i : Nat} (hi : listed.getD i true = false) : ∀ k, i < k → left (listed.setIfInBounds i true) k + 1 = left listed k
 | k + 1, hk => by
  have hlt : i < listed.size := by
   rcases Nat.lt_or_ge i listed.size with h | h
   ·exact h
   ·simp [Array.getElem?_eq_none h] at hi
  have out : ∀ k, k ≤ i → left (listed.setIfInBounds i true) k = left listed k := by
   intro k
   induction k with
   | zero => intro _; rfl
   | succ k ih =>
    intro h
    simp only [left]
    rw [getD_set_ne true (by omega), ih (by omega)]
  simp only [left]
  rcases Nat.lt_or_ge i k with h | h
  ·rw [getD_set_ne true (by omega), ← left_set hi k h]; omega
  ·have : i = k := by omega
   subst this
   rw [out i (Nat.le_refl _), hi]
   have : (listed.setIfInBounds i true).getD i true = true := by simp
   rw [this]; simp; omega
theorem left_zero {listed : Array Bool} : ∀ k, left listed k = 0 → ∀ i, i < k → listed.getD i true = true
 | k + 1, h, i, hi => by
  simp only [left] at h
  rcases Nat.lt_or_ge i k with h' | h'
  ·exact left_zero k (by omega) i h'
  ·have : i = k := by omega
   subst this
   cases hl : listed.getD i true with
   | true => rfl
   | false => rw [hl] at h; simp at h
theorem getD_tf {listed : Array Bool} {i : Nat} (h : i < listed.size) : listed.getD i true = listed.getD i false := by simp [Array.getD_eq_getD_getElem?, Array.getElem?_eq_getElem h]
theorem dr_snd (hm : P.follows .mixedOrders = true) : DrSnd P n (drA Γ n) := by
 intro rid ops C0 C1 a1 fr K Q s h hQ
 obtain ⟨hok, h⟩ := h
 obtain ⟨V, e, frs, Hs, rfl, hH0, hst, pre, ⟨hord, hK⟩, hpr⟩ := drun_ex Γ n ops.toList C1.H ops.toList 0 [] _ _ _ h
 refine wp_region_any hm ?_
 -- the static facts
 have hN : ops.toList.length = ops.size := by simp
 have hget : ∀ j o, ops[j]? = some o → ops.toList[j]? = some o := fun j o h => by rw [Array.getElem?_toList]; exact h
 have hah : ∀ j o, ops[j]? = some o → (∀ d ∈ deps o, d < j) ∧ (∀ x ∈ (ahead [] ops.toList).getD j [], x ∈ deps o ∨ ∃ d ∈ deps o, x ∈ (ahead [] ops.toList).getD d []) ∧
   ∀ i p, i < j → ops[i]? = some p → meets ops.toList p o = true → i ∈ (ahead [] ops.toList).getD j [] := by
  intro j o ho
  have hj : j < ops.toList.length := by rw [hN]; exact (Array.getElem?_eq_some_iff.1 ho).1
  have := allLt_spec hok j hj
  rw [hget j o ho] at this
  simp only [Bool.and_eq_true, List.all_eq_true, Bool.or_eq_true, List.any_eq_true, memN_iff] at this
  obtain ⟨⟨h1, h2⟩, h3⟩ := this
  refine ⟨fun d hd => by simpa [Nat.blt_eq] using h1 d hd, fun x hx => (h2 x hx).imp id fun ⟨d, hd, hx⟩ => ⟨d, hd, hx⟩, fun i p hi hp hmt => ?_⟩
  have := allLt_spec h3 i hi
  rw [hget i p hp] at this
  simp only [Bool.or_eq_true, Bool.not_eq_true', memN_iff] at this
  rcases this with h | h
  ·rw [hmt] at h; cases h
  ·exact h
 generalize ahead [] ops.toList = ah at *
 -- what is listed is closed
 have hclosed : ∀ (listed : Array Bool), (∀ j o, ops[j]? = some o → listed.getD j false = true → ∀ d ∈ deps o, listed.getD d false = true) →
   ∀ j o, ops[j]? = some o → (∀ d ∈ deps o, listed.getD d false = true) → ∀ x ∈ ah.getD j [], listed.getD x false = true := by
  intro listed hcl j
  induction j using Nat.strongRecOn with
  | _ j ih =>
   intro o ho hd x hx
   obtain ⟨h1, h2, _⟩ := hah j o ho
   rcases h2 x hx with h | ⟨d, hdd, hx⟩
   ·exact hd x h
   ·have hdj := h1 d hdd
    have hlt : d < ops.size := by have := (Array.getElem?_eq_some_iff.1 ho).1; omega
    exact ih d hdj ops[d] (Array.getElem?_eq_getElem hlt) (hcl d ops[d] (Array.getElem?_eq_getElem hlt) (hd d hdd)) x hx
 -- pairs of operations that have to do with owned blocks
 have hee : ∀ i j, i < j → j < ops.toList.length → (e i).isEff = true → (e j).isEff = true → i ∈ ah.getD j [] := by
  intro i j hij hj hi hj'
  have hni : e i ≠ .no := fun h => by rw [h] at hi; cases hi
  have hnj : e j ≠ .no := fun h => by rw [h] at hj'; cases hj'
  have := (hpr ah hord j hj hnj).2 i hij hni
  simp only [Nat.zero_add, evOk] at this
  cases h1 : e i with
  | eff W =>
   cases h2 : e j with
   | eff W' => rw [h1, h2] at this; simpa [memN_iff] using this
   | _ => rw [h2] at hj'; cases hj'
  | _ => rw [h1] at hi; cases hi
 -- slots between two points
 have hsame : ∀ t x y, x ≤ y → y ≤ ops.size → (∀ i p, x ≤ i → i < y → ops[i]? = some p → p.dst ≠ some t) → (frs y).get t = (frs x).get t := by
  intro t x y hxy
  obtain ⟨d, rfl⟩ := Nat.exists_eq_add_of_le hxy
  clear hxy
  induction d with
  | zero => intro _ _; rfl
  | succ d ih =>
   intro hy hno
   have hxy : x ≤ x + d := Nat.le_add_right _ _
   generalize hyy : x + d = y at *
   rw [show x + (d + 1) = y + 1 by omega] at *
   have hlt : y < ops.size := by omega
   obtain ⟨_, h2, _⟩ := hst y ops[y] (hget y _ (Array.getElem?_eq_getElem hlt))
   rw [h2, Fr.get_put, if_neg (hno y _ hxy (Nat.lt_succ_self y) (Array.getElem?_eq_getElem hlt))]
   exact ih (by omega) (fun i p h1 h2 => hno i p h1 (by omega))
 have hsameH : ∀ x y, x ≤ y → y ≤ ops.size → (∀ i, x ≤ i → i < y → (e i).isEff = false) → Hs y = Hs x := by
  intro x y hxy
  obtain ⟨d, rfl⟩ := Nat.exists_eq_add_of_le hxy
  clear hxy
  induction d with
  | zero => intro _ _; rfl
  | succ d ih =>
   intro hy hno
   have hxy : x ≤ x + d := Nat.le_add_right _ _
   generalize hyy : x + d = y at *
   rw [show x + (d + 1) = y + 1 by omega] at *
   have hlt : y < ops.size := by omega
   obtain ⟨_, _, h3⟩ := hst y ops[y] (hget y _ (Array.getElem?_eq_getElem hlt))
   have he := hno y hxy (Nat.lt_succ_self y)
   have : Hs (y + 1) = Hs y := by
    rcases h3 with ⟨_, ⟨_, h, _⟩ | ⟨h, _⟩ | ⟨_, _, h, _⟩⟩ | ⟨_, _, _, h⟩
    ·exact h
    ·rw [he] at h; cases h
    ·exact h
    ·exact h
   rw [this]
   exact ih (by omega) (fun i h1 h2 => hno i h1 (by omega))
 -- the walk, in any order
 -- all listed: the end
 have fin : ∀ (listed : Array Bool) (C : Ctx) (a : Act), (∀ i, i < ops.size → listed.getD i false = true) → Ext C0 C → HRep C → a.tmps.size = n → a.defers = [] →
   (∀ t, ∃ k, k ≤ ops.size ∧ RT C (a.tmps.getD t undef) ((frs k).get t) ∧ ∀ (i : Nat) (p : Oper), ops[i]? = some p → p.dst = some t → (listed.getD i false = true ↔ i < k)) →
   (∃ k, k ≤ ops.size ∧ C.H = Hs k ∧ ∀ i, i < ops.size → (e i).isEff = true → (listed.getD i false = true ↔ i < k)) → Q .normal a C.w := by
  intro listed C a hall hE hC hn hdf hT ⟨k, hk, hH, hke⟩
  have hHN : C.H = Hs ops.toList.length := by
   rw [hN, hH]
   refine (hsameH k ops.size hk (Nat.le_refl _) fun i h1 h2 => ?_).symm
   cases hb : (e i).isEff with
   | false => rfl
   | true => have := (hke i h2 hb).1 (hall i h2); omega
  refine hQ C a (frs ops.toList.length) ⟨hE, hC, fun t => ?_, hn, hdf⟩ (by rw [hHN]; exact hK)
  obtain ⟨k, hk, hr, hkt⟩ := hT t
  rw [hN, hsame t k ops.size hk (Nat.le_refl _) fun i p h1 h2 hp hd => ?_]
  ·exact hr
  ·have := (hkt i p hp hd).1 (hall i h2); omega
 -- the walk, in any order
 have main : ∀ (fuel : Nat) (listed : Array Bool) (C : Ctx) (a : Act), listed.size = ops.size → left listed ops.size ≤ fuel →
   (∀ (j : Nat) (o : Oper), ops[j]? = some o → listed.getD j false = true → ∀ d ∈ deps o, listed.getD d false = true) →
   Ext C0 C → HRep C → a.tmps.size = n → a.defers = [] →
   (∀ t, ∃ k, k ≤ ops.size ∧ RT C (a.tmps.getD t undef) ((frs k).get t) ∧ ∀ (i : Nat) (p : Oper), ops[i]? = some p → p.dst = some t → (listed.getD i false = true ↔ i < k)) →
   (∃ k, k ≤ ops.size ∧ C.H = Hs k ∧ ∀ i, i < ops.size → (e i).isEff = true → (listed.getD i false = true ↔ i < k)) →
   wpAny P .any ops Q fuel listed a C.w := by
  intro fuel
  induction fuel with
  | zero =>
   intro listed C a hsz hl hcl hE hC hn hdf hT hHk
   have hall := left_zero ops.size (by omega : left listed ops.size = 0)
   have hall' : ∀ i, i < ops.size → listed.getD i false = true := fun i hi => by rw [← getD_tf (by omega)]; exact hall i hi
   refine ⟨?_, fin listed C a hall' hE hC hn hdf hT hHk⟩
   cases hr : Region.ready .any ops listed with
   | nil => rfl
   | cons x r =>
    have : x ∈ Region.ready .any ops listed := by rw [hr]; simp
    obtain ⟨h0, o, ho, _⟩ := mem_ready.1 this
    rw [hall x (Array.getElem?_eq_some_iff.1 ho).1] at h0; cases h0
  | succ fuel ih =>
   intro listed C a hsz hl hcl hE hC hn hdf hT hHk
   refine ⟨fun hr => fin listed C a ?_ hE hC hn hdf hT hHk, fun j hj => ?_⟩
   ·-- nothing is ready: all is listed
    intro i
    induction i using Nat.strongRecOn with
    | _ i ih =>
     intro hi
     cases hb : listed.getD i false with
     | true => rfl
     | false =>
      have ho : ops[i]? = some ops[i] := Array.getElem?_eq_getElem hi
      have : i ∈ Region.ready .any ops listed := mem_ready.2 ⟨by rw [getD_tf (by omega)]; exact hb, ops[i], ho, fun ed hed hbd => by
       have hd : ed.on ∈ deps ops[i] := List.mem_filterMap.2 ⟨ed, by simpa using hed, by simp [hbd]⟩
       have := (hah i _ ho).1 _ hd
       exact ih _ this (by omega)⟩
      rw [hr] at this; cases this
   ·obtain ⟨hun, o, ho, haft⟩ := mem_ready.1 hj
    have hjs : j < ops.size := (Array.getElem?_eq_some_iff.1 ho).1
    have hunf : listed.getD j false = false := by rw [← getD_tf (by omega)]; exact hun
    have hdl : ∀ d ∈ deps o, listed.getD d false = true := fun d hd => by
     obtain ⟨ed, hed, h⟩ := List.mem_filterMap.1 hd
     by_cases hb : Region.binds .any ed = true
     ·rw [if_pos hb] at h; cases h
      exact haft ed (by simpa using hed) hb
     ·rw [if_neg hb] at h; cases h
    have hahj := hclosed listed hcl j o ho hdl
    have hnot : ∀ i p, ops[i]? = some p → j ∈ ah.getD i [] → listed.getD i false = false := fun i p hp hm => by
     cases hb : listed.getD i false with
     | false => rfl
     | true =>
      have := hclosed listed hcl i p hp (hcl i p hp hb) j hm
      rw [hunf] at this; cases this
    obtain ⟨hdst, hfr, hf⟩ := hst j o (hget j o ho)
    obtain ⟨_, _, hmt⟩ := hah j o ho
    -- a slot that the operation looks at
    have hread : ∀ t, (t ∈ opTmps o.op ∨ t ∈ gTmps ops.toList o) → RT C (a.tmps.getD t undef) ((frs j).get t) := by
     intro t ht
     obtain ⟨k, hk, hr, hkt⟩ := hT t
     have hm1 : ∀ p : Oper, p.dst = some t → meets ops.toList p o = true := fun p hp => by
      unfold meets
      rw [hp]
      simp only [Bool.or_eq_true, memN_iff]
      exact .inl (.inl ht)
     have hm2 : ∀ p : Oper, p.dst = some t → meets ops.toList o p = true := fun p hp => by
      unfold meets
      rw [hp]
      simp only [Bool.or_eq_true, memN_iff]
      exact .inr ht
     rcases Nat.le_total k j with hkj | hkj
     ·rw [hsame t k j hkj (by omega) fun i p h1 h2 hp hd => ?_]
      ·exact hr
      ·have := (hkt i p hp hd).1 (hahj i (hmt i p h2 hp (hm1 p hd)))
       omega
     ·rw [← hsame t j k hkj hk fun i p h1 h2 hp hd => ?_]
      ·exact hr
      ·have hl := (hkt i p hp hd).2 h2
       rcases Nat.lt_or_ge j i with hji | hji
       ·have := hnot i p hp ((hah i p hp).2.2 j o hji ho (hm2 p hd))
        rw [this] at hl; cases hl
       ·have : i = j := by omega
        subst this
        rw [hunf] at hl; cases hl
    -- what comes behind it
    have step : ∀ (v : Value) (C' : Ctx), Ext C C' → HRep C' → RT C' v (V j) → (C'.H = C.H ∧ (e j).isEff = false ∨ C'.H = Hs (j + 1) ∧ (e j).isEff = true ∧ C.H = Hs j) →
      wpAny P .any ops Q fuel (listed.setIfInBounds j true) (a.put o.dst v) C'.w := by
     intro v C' hE' hC' hv hH'
     have hgt : ∀ i, i ≠ j → (listed.setIfInBounds j true).getD i false = listed.getD i false := fun i hi => getD_set_ne false (Ne.symm hi)
     have hgj : (listed.setIfInBounds j true).getD j false = true := by simp [show j < listed.size by omega]
     refine ih _ C' _ (by simp [hsz]) (by have := left_set hun ops.size hjs; omega) ?_ (hE.trans hE') hC' ?_ ?_ ?_ ?_
     ·intro i p hp hi d hd
      by_cases hij : i = j
      ·subst hij
       rw [ho] at hp; cases hp
       exact getD_set_true (hdl d hd)
      ·rw [hgt i hij] at hi
       exact getD_set_true (hcl i p hp hi d hd)
     ·cases o.dst <;> simp [Act.put, hn]
     ·cases o.dst <;> simp [Act.put, hdf]
     ·intro t
      by_cases htd : o.dst = some t
      ·refine ⟨j + 1, by omega, ?_, fun i p hp hd => ?_⟩
       ·have hlt : t < a.tmps.size := by
         rw [htd] at hdst
         rw [hn]; simpa [dstOk, Nat.blt_eq] using hdst
        rw [hfr, Fr.get_put, if_pos htd, htd]
        simp only [Act.put]
        simp only [Array.getD_eq_getD_getElem?, Array.getElem?_setIfInBounds_self_of_lt hlt, Option.getD_some]
        exact hv
       ·by_cases hij : i = j
        ·subst hij; simp [hgj]
        ·rw [hgt i hij]
         rcases Nat.lt_or_ge i j with h | h
         ·have : meets ops.toList p o = true := by
           unfold meets
           rw [hd, htd]
           simp [memN_iff]
          simp [hahj i (hmt i p h hp this)]; omega
         ·have : meets ops.toList o p = true := by
           unfold meets
           rw [hd, htd]
           simp [memN_iff]
          simp [hnot i p hp ((hah i p hp).2.2 j o (by omega) ho this)]; omega
      ·obtain ⟨k, hk, hr, hkt⟩ := hT t
       refine ⟨k, hk, ?_, fun i p hp hd => ?_⟩
       ·have : (a.put o.dst v).tmps.getD t undef = a.tmps.getD t undef := by
         cases hd : o.dst with
         | none => rfl
         | some d =>
          have hne : d ≠ t := fun e => htd (by rw [hd, e])
          simp only [Act.put, Array.getD_eq_getD_getElem?, Array.getElem?_setIfInBounds_ne hne]
        rw [this]; exact hE'.RT hr
       ·have : i ≠ j := fun e => by subst e; rw [ho] at hp; cases hp; exact htd hd
        rw [hgt i this]; exact hkt i p hp hd
     ·rcases hH' with ⟨hH', hb⟩ | ⟨hH', hb, hHj⟩
      ·obtain ⟨k, hk, hHk, hke⟩ := hHk
       refine ⟨k, hk, by rw [hH']; exact hHk, fun i hi hei => ?_⟩
       have : i ≠ j := fun e => by subst e; rw [hb] at hei; cases hei
       rw [hgt i this]; exact hke i hi hei
      ·refine ⟨j + 1, by omega, hH', fun i hi hei => ?_⟩
       by_cases hij : i = j
       ·subst hij; simp [hgj]
       ·rw [hgt i hij]
        rcases Nat.lt_or_ge i j with h | h
        ·have := hee i j h (by rw [hN]; exact hjs) hei hb
         simp [hahj i this]; omega
        ·have := hee j i (by omega) (by rw [hN]; exact hi) hb hei
         simp [hnot i ops[i] (Array.getElem?_eq_getElem hi) this]; omega
    -- the heap, where the operation has a place
    have hheap : (e j).isEff = true → C.H = Hs j := by
     intro hb
     obtain ⟨k, hk, hHk, hke⟩ := hHk
     rw [hHk]
     rcases Nat.le_total k j with hkj | hkj
     ·refine (hsameH k j hkj (by omega) fun i h1 h2 => ?_).symm
      cases hei : (e i).isEff with
      | false => rfl
      | true =>
       have := hee i j h2 (by rw [hN]; exact hjs) hei hb
       have := (hke i (by omega) hei).1 (hahj i this)
       omega
     ·refine hsameH j k hkj hk fun i h1 h2 => ?_
      cases hei : (e i).isEff with
      | false => rfl
      | true =>
       have hl := (hke i (by omega) hei).2 h2
       rcases Nat.lt_or_ge j i with hji | hji
       ·have := hee j i hji (by rw [hN]; omega) hb hei
        rw [hnot i ops[i] (Array.getElem?_eq_getElem (by omega)) this] at hl; cases hl
       ·have : i = j := by omega
        subst this
        rw [hunf] at hl; cases hl
    -- is it wanted
    have hwant : ∀ {T E : Prop}, aWanted ops.toList (frs j) o.guard T E → (Region.wanted o (yielded ops a.tmps) = true ∧ T) ∨ (Region.wanted o (yielded ops a.tmps) = false ∧ E) := by
     intro T E hw
     have hw' : aWanted ops.toList ((gTmps ops.toList o).map fun t => (t, (frs j).get t)) o.guard T E := by
      refine aWanted_congr (fun d hd => ?_) hw
      exact pick_get d _ hd _
     refine aWanted_snd (C0 := C) (n := n) ⟨Ext.refl C hC, hC, fun t => ?_, hn, hdf⟩ hw'
     rcases pick_get' (frs j) (gTmps ops.toList o) t with ⟨h1, h2⟩ | h2
     ·rw [h2]; exact hread t (.inr h1)
     ·rw [h2]; trivial
    have hfrok : FrOk C a (opFr (frs j) o.op) := fun t => by
     rcases opFr_get (frs j) o.op t with ⟨h1, h2⟩ | h2
     ·rw [h2]; exact hread t (.inl h1)
     ·rw [h2]; trivial
    unfold wpOp
    simp only [ho]
    rcases hf with ⟨hw, hf⟩ | ⟨hw, hV, hb, hHj⟩
    ·rcases hwant hw with ⟨hw, _⟩ | ⟨_, h⟩
     ·rw [hw, if_pos rfl]
      left
      rcases hf with ⟨hb, hHj, hf | hf⟩ | ⟨hb, _, hf⟩ | ⟨R, hb, hHj, hf⟩
      ·-- it hangs on nothing owned
       obtain ⟨r, H', ⟨rfl, rfl⟩, hy⟩ := aop_snd Γ (C := C.shut) (shut_rep hC) (a := a) (fr := lowFr (opFr (frs j) o.op)) (fun t => by rw [lowFr_get]; exact shut_RT (hfrok t)) hf
       refine hy _ _ fun v D hDH hED hD hv => ?_
       have hJ := join_RT hC hED hv
       rw [shT_eq hDH hv] at hJ
       exact step v (C.join D) (join_ext hC hED) (join_rep hC hED hD) hJ (.inl ⟨by simp [Ctx.join, hDH], by rw [hb]; rfl⟩)
      ·-- whatever is owned
       obtain ⟨r, H', ⟨rfl, rfl⟩, hy⟩ := aop_snd Γ hC hfrok (hf C.H)
       refine hy _ _ fun v C' hCH hE' hC' hv => ?_
       exact step v C' hE' hC' hv (.inl ⟨hCH, by rw [hb]; rfl⟩)
      ·obtain ⟨r, H', ⟨rfl, rfl⟩, hy⟩ := aop_snd Γ hC hfrok (by rw [hheap hb]; exact hf)
       refine hy _ _ fun v C' hCH hE' hC' hv => ?_
       exact step v C' hE' hC' hv (.inr ⟨hCH, hb, hheap hb⟩)
      ·-- it reads blocks that nothing before it has changed
       obtain ⟨k, hk, hHk, hke⟩ := hHk
       have hag : ∀ y, y ≤ k → (Hs 0).length ≤ (Hs y).length ∧ ∀ id, id < (Hs 0).length → id ∈ R → (Hs y)[id]? = (Hs 0)[id]? := by
        intro y
        induction y with
        | zero => intro _; exact ⟨Nat.le_refl _, fun _ _ _ => rfl⟩
        | succ y ihy =>
         intro hyk
         obtain ⟨h1, h2⟩ := ihy (by omega)
         obtain ⟨_, _, h3⟩ := hst y ops[y] (hget y _ (Array.getElem?_eq_getElem (by omega)))
         have same : Hs (y + 1) = Hs y → (Hs 0).length ≤ (Hs (y + 1)).length ∧ ∀ id, id < (Hs 0).length → id ∈ R → (Hs (y + 1))[id]? = (Hs 0)[id]? := fun h => by rw [h]; exact ⟨h1, h2⟩
         rcases h3 with ⟨_, ⟨_, h, _⟩ | ⟨hey, hW, _⟩ | ⟨_, _, h, _⟩⟩ | ⟨_, _, _, h⟩
         ·exact same h
         ·have hly := (hke y (by omega) hey).2 (by omega)
          have hyj : y ≠ j := fun h => by subst h; rw [hb] at hey; cases hey
          have hnj : e j ≠ .no := by rw [hb]; simp
          have hny : e y ≠ .no := fun h => by rw [h] at hey; cases hey
          have hnt : ∃ W, e y = .eff (some W) ∧ touch (some W) R = false := by
           cases hy' : e y with
           | no => exact absurd hy' hny
           | rd _ => rw [hy'] at hey; cases hey
           | eff Wo =>
            have ht : touch Wo R = false := by
             rcases Nat.lt_or_gt_of_ne hyj with hlt | hgt
             ·have := (hpr ah hord j (by rw [hN]; exact hjs) hnj).2 y hlt hny
              simp only [evOk, hb, hy'] at this
              simpa using this
             ·have := (hpr ah hord y (by rw [hN]; omega) hny).2 j hgt hnj
              simp only [evOk, hb, hy', Nat.zero_add, Bool.or_eq_true, memN_iff] at this
              rcases this with h | h
              ·simpa using h
              ·rw [hnot y ops[y] (Array.getElem?_eq_getElem (by omega)) h] at hly; cases hly
            cases Wo with
            | none => simp [touch] at ht
            | some W => exact ⟨W, rfl, ht⟩
          obtain ⟨W, hyW, ht⟩ := hnt
          obtain ⟨g1, g2⟩ := agree_get (hW W hyW)
          refine ⟨by omega, fun id hid hr => ?_⟩
          rw [g2 id (by omega) ?_, h2 id hid hr]
          rw [Nat.zero_add]
          intro hm
          simp only [touch, List.any_eq_false, memN_iff] at ht
          exact ht id hr hm
         ·exact same h
         ·exact same h
       obtain ⟨g1, g2⟩ := hag k (Nat.le_refl _)
       obtain ⟨f, T, hfT⟩ := holes_eq (R := R) 0 (Hs 0) (Hs k) g1 (fun id hid hr => g2 id hid (by simpa using hr))
       have hCf : C.H = holes R f T 0 C1.H := by rw [hHk, hfT, hH0]
       obtain ⟨r, H', ⟨rfl, rfl⟩, hy⟩ := aop_snd Γ hC hfrok (by rw [hCf]; exact hf f T)
       refine hy _ _ fun v C' hCH hE' hC' hv => ?_
       exact step v C' hE' hC' hv (.inl ⟨by rw [hCH, hCf], by rw [hb]; rfl⟩)
     ·exact h.elim
    ·rcases hwant hw with ⟨_, h⟩ | ⟨hw, _⟩
     ·exact h.elim
     ·rw [hw]
      simp only [Bool.false_eq_true, if_false]
      exact step undef C (Ext.refl C hC) hC (by rw [hV]; exact ⟨#[], rfl, rfl, fun i h => by simp at h⟩) (.inl ⟨rfl, by rw [hb]; rfl⟩)
 obtain ⟨hE1, hC1⟩ := grown_ext s.rep (w' := { C1.w with drawn := C1.w.drawn + 1 }) rfl rfl rfl (Nat.le_refl _) (fun _ _ => rfl)
 refine main ops.size _ { C1 with w := { C1.w with drawn := C1.w.drawn + 1 } } a1 (by simp) ?_ ?_ (s.ext.trans hE1) hC1 s.size s.defers ?_ ?_
 ·have : ∀ (l : Array Bool) k, left l k ≤ k := by
   intro l k
   induction k with
   | zero => exact Nat.le_refl _
   | succ k ih => simp only [left]; split <;> omega
  exact this _ _
 ·intro j o _ hj
  simp [Array.getElem?_replicate] at hj
  split at hj <;> simp at hj
 ·intro t
  refine ⟨0, Nat.zero_le _, hE1.RT (s.fr t), fun i p hp hd => ?_⟩
  simp [Array.getElem?_replicate]
  split <;> simp
 ·refine ⟨0, Nat.zero_le _, hH0.symm, fun i hi _ => ?_⟩
  simp [Array.getElem?_replicate]
  split <;> simp
end
theorem NDr.w {P : Program} {Γ : Tab P} {fr : Fr} {op : Op} {H0 H : List Blk} {next : EvK → AV → List Blk → Prop} (r : AV) (hn : next .no r H) (h : aop Γ (lowFr (opFr fr op)) op [] (fun a b => a = r ∧ b = []) := by exact ⟨rfl, rfl⟩) : NDr Γ fr op H0 H next := .pure r h hn
end Go.Bv
namespace Go.Bv
open Go Go.ChangeShapes Go.WideShapes Go.RowKit Go.Deep
/-- The cells of a value, typed. -/
def TyC (P : Program) : Nat → TypeId → List AV → Prop
 | 0, _, _ => False
 | n + 1, t, as => match P.underlying t with
  | some .bool => ∃ b, as = [.bool b]
  | some (.int k) => ∃ z, as = [.int k z] ∧ k.min ≤ z ∧ z ≤ k.max
  | some .string => ∃ s : List UInt8, as = [.str s] ∧ s.length ≤ reachBytes
  | some (.slice e) => ∃ l, as = [.list (shOf P e) l] ∧ l.length * P.bytesOf e ≤ reachBytes ∧ ∀ x ∈ l, ∃ xs, TyC P n e xs ∧ x = match shOf P e with
    | .leaf => xs.headD .undef
    | .agg _ => .agg xs
  | some (.struct fs) => as.length = P.cellsOf t ∧ ∀ f ∈ fs.toList, TyC P n f.type ((as.drop f.offset).take (P.cellsOf f.type))
  | _ => False
def mkA (sh : Sh) (xs : List AV) : AV := match sh with
 | .leaf => xs.headD .undef
 | .agg _ => .agg xs
def mkV (sh : Sh) (xs : List Value) : Value := match sh with
 | .leaf => xs.headD undef
 | .agg _ => .agg xs.toArray
def contig (P : Program) : List Field → Nat → Nat → Bool
 | [], o, tot => o == tot
 | f :: r, o, tot => f.offset == o && contig P r (o + P.cellsOf f.type) tot
def shFits (P : Program) (t : TypeId) : Bool := match shOf P t with
 | .leaf => P.cellsOf t == 1
 | .agg n => n == P.cellsOf t && Nat.ble 1 n
def tyOk (P : Program) : Nat → TypeId → Bool
 | 0, _ => false
 | n + 1, t => shFits P t && match P.underlying t with
  | some .bool | some (.int _) | some .string => true
  | some (.slice e) => tyOk P n e
  | some (.struct fs) => contig P fs.toList 0 (P.cellsOf t) && fs.toList.all fun f => tyOk P n f.type
  | _ => false
structure CR (w : World) (G : Nat → Prop) (cs : List Value) (as : List AV) : Prop where
 len : cs.length = as.length
 rd : ∀ (i : Nat) (h : i < cs.length) (h' : i < as.length), RP w G cs[i] as[i] ∧ cs[i].oneCell' = true
theorem CR.append {w : World} {G : Nat → Prop} {cs cs' : List Value} {as as' : List AV} (h : CR w G cs as) (h' : CR w G cs' as') : CR w G (cs ++ cs') (as ++ as') := by
 refine ⟨by simp [h.len, h'.len], fun i hi hi' => ?_⟩
 rcases Nat.lt_or_ge i cs.length with hlt | hge
 ·have h2 : i < as.length := by rw [← h.len]; exact hlt
  simp only [List.getElem_append_left hlt, List.getElem_append_left h2]
  exact h.rd i hlt h2
 ·have h2 : as.length ≤ i := by rw [← h.len]; exact hge
  simp only [List.getElem_append_right hge, List.getElem_append_right h2, h.len]
  simp only [List.length_append] at hi hi'
  exact h'.rd _ (by have := h.len; omega) (by omega)
theorem CR.val {w : World} {G : Nat → Prop} {cs : List Value} {as : List AV} (h : CR w G cs as) {sh : Sh} (hl : as.length = sh.size) : RP w G (mkV sh cs) (mkA sh as) ∧ okSh (mkV sh cs) sh ∧ ∀ j : Nat, (mkV sh cs).cells[j]? = cs[j]? := by
 have hlen := h.len
 cases sh with
 | leaf =>
  simp only [Sh.size] at hl
  obtain ⟨a, rfl⟩ := List.length_eq_one_iff.1 hl
  obtain ⟨v, rfl⟩ := List.length_eq_one_iff.1 (hlen.trans hl)
  obtain ⟨h1, h2⟩ := h.rd 0 (by simp) (by simp)
  exact ⟨h1, h2, fun j => by simp only [mkV, List.headD_cons]; have h2 : v.oneCell' = true := h2; rw [cells_one h2]; simp⟩
 | agg n =>
  simp only [Sh.size] at hl
  refine ⟨.agg cs.toArray as (by simpa using hlen) (fun i hi => ?_) (fun i x hx => ?_), ⟨cs.toArray, rfl, by simp; omega, fun i x hx => ?_⟩, fun j => by simp [mkV, Value.cells]⟩
  ·have h2 : i < cs.length := by omega
   have := (h.rd i h2 hi).1
   simpa [Array.getD_eq_getD_getElem?, h2] using this
  all_goals
   have hx : cs[i]? = some x := by simpa using hx
   obtain ⟨hi, rfl⟩ := List.getElem?_eq_some_iff.1 hx
   exact (h.rd i hi (by omega)).2
theorem shFits_size {P : Program} {t : TypeId} (h : shFits P t = true) : (shOf P t).size = P.cellsOf t ∧ 0 < P.cellsOf t := by
 unfold shFits at h
 split at h
 ·rename_i hs; rw [hs]; simp only [Sh.size]; simp at h; omega
 ·rename_i n hs; rw [hs]; simp only [Sh.size]; simp [Nat.ble_eq] at h; omega
theorem fields_open {P : Program} {w : World} {G : Nat → Prop} {n : Nat} {cs : List Value} : ∀ (fs : List Field) (o tot : Nat), (∀ f ∈ fs, ∃ as, CR w G ((cs.drop f.offset).take (P.cellsOf f.type)) as ∧ TyC P n f.type as) → contig P fs o tot = true → tot ≤ cs.length →
  o ≤ tot ∧ ∃ as, CR w G ((cs.drop o).take (tot - o)) as ∧ ∀ f ∈ fs, o ≤ f.offset ∧ TyC P n f.type ((as.drop (f.offset - o)).take (P.cellsOf f.type))
 | [], o, tot, _, hc, ht => by
  simp only [contig, beq_iff_eq] at hc
  subst hc
  exact ⟨Nat.le_refl _, [], ⟨by simp, fun i hi => by simp at hi⟩, fun f hf => by cases hf⟩
 | f :: r, o, tot, h, hc, ht => by
  simp only [contig, Bool.and_eq_true, beq_iff_eq] at hc
  obtain ⟨rfl, hc⟩ := hc
  obtain ⟨hle, as', hcr', hty'⟩ := fields_open r _ tot (fun g hg => h g (by simp [hg])) hc ht
  obtain ⟨as, hcr, hty⟩ := h f (by simp)
  have hlen : as.length = P.cellsOf f.type := by
   rw [← hcr.len]; simp; omega
  refine ⟨by omega, as ++ as', ?_, fun g hg => ?_⟩
  ·have := hcr.append hcr'
   rwa [show (cs.drop f.offset).take (P.cellsOf f.type) ++ (cs.drop (f.offset + P.cellsOf f.type)).take (tot - (f.offset + P.cellsOf f.type)) = (cs.drop f.offset).take (tot - f.offset) by
    rw [← List.drop_drop, ← List.take_append_drop (P.cellsOf f.type) ((cs.drop f.offset).take (tot - f.offset)), List.take_take, List.drop_take, Nat.min_eq_left (by omega)]
    congr 2; omega] at this
  ·rcases List.mem_cons.1 hg with rfl | hg
   ·refine ⟨Nat.le_refl _, ?_⟩
    simp only [Nat.sub_self, List.drop_zero]
    rw [← hlen, List.take_left']
    ·exact hty
    ·rfl
   ·obtain ⟨h1, h2⟩ := hty' g hg
    refine ⟨by omega, ?_⟩
    rw [show g.offset - f.offset = as.length + (g.offset - (f.offset + P.cellsOf f.type)) by omega, ← List.drop_drop, List.drop_left' rfl]
    exact h2
theorem weightsAll_mem {H : Type} {P : Program} {e : TypeId} : ∀ {l : List (DataW H)} {d : DataW H}, d ∈ l → ∀ n ∈ d.weights P e, n ∈ DataW.weightsAll P e l
 | x :: r, d, hd, n, hn => by
  simp only [DataW.weightsAll, List.mem_append]
  rcases List.mem_cons.1 hd with rfl | h
  ·exact .inl hn
  ·exact .inr (weightsAll_mem h n hn)
theorem mapM_some {α β : Type} {f : α → Option β} : ∀ {l : List α} {r : List β}, l.mapM f = some r → r.length = l.length ∧ ∀ (i : Nat) (h : i < l.length) (h' : i < r.length), f l[i] = some r[i]
 | [], r, h => by
  simp at h; subst h
  exact ⟨rfl, fun i h => by simp at h⟩
 | x :: l, r, h => by
  rw [List.mapM_cons] at h
  obtain ⟨y, hy, h⟩ := Option.bind_eq_some_iff.1 h
  obtain ⟨ys, hys, h⟩ := Option.bind_eq_some_iff.1 h
  cases h
  obtain ⟨h1, h2⟩ := mapM_some hys
  refine ⟨by simp [h1], fun i hi hi' => ?_⟩
  cases i with
  | zero => exact hy
  | succ i => exact h2 i (by simpa using hi) (by simpa using hi')
section
variable {H : Type} {enc : TypeId × Value → H} {P : Program} {w : World}
theorem open_C : ∀ (n fuel : Nat) (t : TypeId) (cs : List Value) (x : DataW H × List MemPlace), DataW.trod enc P w 0 (fun _ => true) true fuel t cs = some x → tyOk P n t = true → (∀ k ∈ x.1.weights P t, k ≤ reachBytes) →
  ∃ as, CR w (fun b => b < w.heap.size) cs as ∧ TyC P n t as
 | 0, _, _, _, _, _, h, _ => by simp [tyOk] at h
 | n + 1, 0, _, _, _, h, _, _ => by simp [DataW.trod] at h
 | n + 1, fuel + 1, t, cs, x, h, hok, hw => by
  simp only [tyOk, Bool.and_eq_true] at hok
  obtain ⟨hfit, hok⟩ := hok
  have one : ∀ {v : Value} {a : AV}, RP w (fun b => b < w.heap.size) v a → v.oneCell' = true → CR w (fun b => b < w.heap.size) [v] [a] := fun h1 h2 => ⟨rfl, fun i hi hi' => by
   have : i = 0 := by simpa using hi
   subst this; exact ⟨h1, h2⟩⟩
  cases ht : P.underlying t with
  | none => rw [ht] at hok; cases hok
  | some d =>
   rw [ht] at hok
   cases d with
   | bool =>
    simp only [DataW.trod, ht] at h
    split at h <;> simp_all
    exact ⟨_, one (.bool _) rfl, by simp only [TyC, ht]; exact ⟨_, rfl⟩⟩
   | int k =>
    simp only [DataW.trod, ht] at h
    split at h <;> simp_all
    rename_i k' z _
    obtain ⟨⟨rfl, hwf⟩, _⟩ := h
    simp only [Lit.wf, Bool.and_eq_true, decide_eq_true_eq] at hwf
    exact ⟨_, one (.int _ z) rfl, by simp only [TyC, ht]; exact ⟨_, rfl, hwf⟩⟩
   | string =>
    simp only [DataW.trod, ht] at h
    split at h <;> simp_all
    rename_i s
    obtain ⟨_, rfl⟩ := h
    exact ⟨_, one (.str s) rfl, by simp only [TyC, ht]; exact ⟨_, rfl, by simpa [DataW.weights] using hw⟩⟩
   | slice e =>
    simp only at hok
    have hfe := shFits_size (P := P) (t := e) (by cases n with
     | zero => simp [tyOk] at hok
     | succ n => simp only [tyOk, Bool.and_eq_true] at hok; exact hok.1)
    rcases open_slice ht h with ⟨rfl, rfl⟩ | ⟨a, len, cap, m, n', D, Pl, rfl, _, hle, hmax, hm, rfl, hel⟩
    ·exact ⟨_, one (.list0 (shOf P e) none 0) rfl, by simp only [TyC, ht]; exact ⟨_, rfl, by simp, fun x hx => by cases hx⟩⟩
    ·have hm : m = cap := by simpa using hm
     subst hm
     simp only [DataW.weights, ht] at hw
     have hb : len * P.bytesOf e ≤ reachBytes := by
      have := hw _ (List.mem_cons_self ..)
      simp only [List.length_map, List.length_range] at this
      exact Nat.le_trans (Nat.mul_le_mul_right _ (by omega)) this
     have hx : ∀ i, i < len → ∃ as cs', w.cells? 0 (a.add (i * P.cellsOf e)) (P.cellsOf e) = some cs' ∧ CR w (fun b => b < w.heap.size) cs' as ∧ TyC P n e as := by
      intro i hi
      obtain ⟨cs', h1, h2⟩ := hel i (by omega)
      obtain ⟨as, h3, h4⟩ := open_C n n' e cs' _ h2 hok (fun k hk => hw k (List.mem_cons_of_mem _ (List.mem_append_left _ (weightsAll_mem (List.mem_map.2 ⟨i, List.mem_range.2 hi, rfl⟩) k hk))))
      exact ⟨as, cs', h1, h3, h4⟩
     rcases Nat.eq_zero_or_pos len with h0 | hpos
     ·subst h0
      exact ⟨_, one (.list0 (shOf P e) (some a) m) rfl, by simp only [TyC, ht]; exact ⟨_, rfl, by simp, fun x hx => by cases hx⟩⟩
     ·have hcell : ∀ i j, i < len → j < P.cellsOf e → ∃ as cs', CR w (fun b => b < w.heap.size) cs' as ∧ cs'.length = P.cellsOf e ∧ w.cell? ((a.add (i * P.cellsOf e)).add j) = cs'[j]? := by
       intro i j hi hj
       obtain ⟨as, cs', h1, h2, _⟩ := hx i hi
       obtain ⟨_, hl, hc⟩ := World.cells?_some h1
       exact ⟨as, cs', h2, hl, by rw [hc j hj]⟩
      have hspot : a = ⟨a.block, a.off, none⟩ ∧ a.block < w.heap.size := by
       obtain ⟨as, cs', _, hl, hc⟩ := hcell 0 0 hpos hfe.2
       simp only [Nat.zero_mul, Addr.add, if_true] at hc
       rw [List.getElem?_eq_getElem (by omega)] at hc
       unfold World.cell? at hc
       split at hc
       ·rename_i c T fr hb
        split at hc
        ·cases hc
        ·rename_i hs
         refine ⟨?_, (Array.getElem?_eq_some_iff.1 hb).1⟩
         obtain ⟨ab, ao, asp⟩ := a
         cases asp with
         | none => rfl
         | some _ => exact absurd rfl hs
       ·cases hc
      obtain ⟨ha, hlt⟩ := hspot
      obtain ⟨ab, ao, asp⟩ := a
      simp only [Addr.mk.injEq, true_and] at ha
      subst ha
      obtain ⟨F, hF⟩ := choose_lt (α := List AV × List Value) (p := fun i x => w.cells? 0 ((⟨ab, ao, none⟩ : Addr).add (i * P.cellsOf e)) (P.cellsOf e) = some x.2 ∧ CR w (fun b => b < w.heap.size) x.2 x.1 ∧ TyC P n e x.1) (fun i hi => by
       obtain ⟨as, cs', h1, h2, h3⟩ := hx i hi
       exact ⟨(as, cs'), h1, h2, h3⟩)
      have hlenF : ∀ i, i < len → (F i).2.length = P.cellsOf e := fun i hi => (World.cells?_some (hF i hi).1).2.1
      have hval : ∀ i, i < len → RP w (fun b => b < w.heap.size) (mkV (shOf P e) (F i).2) (mkA (shOf P e) (F i).1) ∧ okSh (mkV (shOf P e) (F i).2) (shOf P e) ∧ ∀ j : Nat, (mkV (shOf P e) (F i).2).cells[j]? = (F i).2[j]? :=
       fun i hi => (hF i hi).2.1.val (by rw [← (hF i hi).2.1.len, hlenF i hi, hfe.1])
      have hlist := RP.list (w := w) (G := fun b => b < w.heap.size) (shOf P e) ab ao m ((List.range len).map fun i => mkA (shOf P e) (F i).1) (fun i => mkV (shOf P e) (F i).2) (by simpa using hle) hlt
       (fun i hi => by simp only [List.getElem_map, List.getElem_range]; exact (hval i (by simpa using hi)).1)
       (fun i hi => (hval i (by simpa using hi)).2.1)
       (fun i j hi hj => by
        simp only [List.length_map, List.length_range] at hi
        rw [(hval i hi).2.2 j]
        obtain ⟨_, hl, hc⟩ := World.cells?_some (hF i hi).1
        rw [← hc j (by rw [← hfe.1]; exact hj), hfe.1, addr_add, addr_add])
      rw [show ((List.range len).map fun i => mkA (shOf P e) (F i).1).length = len by simp] at hlist
      refine ⟨_, one hlist rfl, ?_⟩
      simp only [TyC, ht]
      refine ⟨_, rfl, by simpa using hb, fun x hx => ?_⟩
      obtain ⟨i, hi, rfl⟩ := List.mem_map.1 hx
      exact ⟨(F i).1, (hF i (List.mem_range.1 hi)).2.2, rfl⟩
   | struct fs =>
    simp only [Bool.and_eq_true, List.all_eq_true] at hok
    obtain ⟨hct, hok⟩ := hok
    simp only [DataW.trod, ht] at h
    split at h
    ·rename_i hlen
     obtain ⟨xs, hxs, rfl⟩ := Option.map_eq_some_iff.1 h
     obtain ⟨hxl, hxi⟩ := mapM_some hxs
     simp only [DataW.weights, ht] at hw
     obtain ⟨_, as, hcr, hty⟩ := fields_open (w := w) (G := fun b => b < w.heap.size) (n := n) (cs := cs) fs.toList 0 (P.cellsOf t) (fun f hf => by
      obtain ⟨i, hi, rfl⟩ := List.getElem_of_mem hf
      refine open_C n fuel _ _ _ (hxi i hi (by omega)) (hok _ hf) (fun k hk => hw k ?_)
      exact DataW.weights_mem_each (j := i) (t := (fs.toList[i]).type) (d := (xs[i]'(by omega)).1) (by simp at hi; simp [hi]) (by simp [show i < xs.length by omega]) k hk) hct (by omega)
     simp only [Nat.sub_zero, List.drop_zero] at hcr hty
     rw [List.take_of_length_le (by omega)] at hcr
     refine ⟨as, hcr, ?_⟩
     simp only [TyC, ht]
     exact ⟨by rw [← hcr.len]; exact hlen, fun f hf => (hty f hf).2⟩
    ·cases h
   | _ => simp at hok
/-- Arguments, typed. -/
def TyVs (P : Program) (n : Nat) : List TypeId → List AV → Prop
 | [], [] => True
 | t :: ts, a :: as => (∃ xs, TyC P n t xs ∧ a = mkA (shOf P t) xs) ∧ TyVs P n ts as
 | _, _ => False
theorem open_V {n : Nat} {t : TypeId} {v : Value} {d : DataW H} {ps : List MemPlace} {b0 : Nat} (h : DataW.Trod enc P w 0 (fun _ => true) true t v d ps) (hv : Value.okWide P w .any b0 t v) (hok : tyOk P n t = true) (hw : ∀ k ∈ d.weights P t, k ≤ reachBytes) :
  ∃ xs, RP w (fun b => b < w.heap.size) v (mkA (shOf P t) xs) ∧ TyC P n t xs := by
 obtain ⟨fuel, h⟩ := h
 obtain ⟨as, hcr, hty⟩ := open_C n fuel t _ _ h hok hw
 have hfit : shFits P t = true := by
  cases n with
  | zero => simp [tyOk] at hok
  | succ n => simp only [tyOk, Bool.and_eq_true] at hok; exact hok.1
 have hlen : v.cells.toList.length = (shOf P t).size ∧ v = mkV (shOf P t) v.cells.toList := by
  cases n with
  | zero => simp [tyOk] at hok
  | succ n =>
   simp only [tyOk, Bool.and_eq_true] at hok
   have hok := hok.2
   cases ht : P.underlying t with
   | none => rw [ht] at hok; cases hok
   | some d =>
    rw [ht] at hok
    have hsh : shOf P t = if isAggD d then .agg (P.cellsOf t) else .leaf := by unfold shOf; rw [ht]
    cases d with
    | bool => obtain ⟨b, rfl⟩ := okWide_bool ht hv; rw [hsh]; exact ⟨rfl, rfl⟩
    | int k => obtain ⟨b, rfl⟩ := okWide_int ht hv; rw [hsh]; exact ⟨rfl, rfl⟩
    | string => obtain ⟨b, rfl⟩ := okWide_string ht hv; rw [hsh]; exact ⟨rfl, rfl⟩
    | slice e => obtain ⟨a, l, c, rfl⟩ := okWide_slice ht hv; rw [hsh]; exact ⟨rfl, rfl⟩
    | struct fs =>
     obtain ⟨cs, rfl, hc⟩ := okWide_struct ht hv
     rw [hsh]
     exact ⟨by simpa [Value.cells, isAggD, Sh.size] using hc, by simp [Value.cells, isAggD, mkV]⟩
    | _ => simp at hok
 obtain ⟨h1, _, _⟩ := hcr.val (sh := shOf P t) (by rw [← hcr.len]; exact hlen.1)
 rw [← hlen.2] at h1
 exact ⟨as, h1, hty⟩
theorem open_args {n b0 : Nat} : ∀ (ts : List TypeId) (vs : List Value) (ds : List (DataW H)) (ps : List MemPlace), DataW.TrodAll enc P w 0 (fun _ => true) true ts vs ds ps →
  (∀ (j : Nat) t v, ts[j]? = some t → vs[j]? = some v → Value.okWide P w .any b0 t v) → (∀ t ∈ ts, tyOk P n t = true) → (∀ k ∈ DataW.weightsEach P ts ds, k ≤ reachBytes) →
  ∃ as, vs.length = as.length ∧ (∀ (i : Nat) (h : i < vs.length) (h' : i < as.length), RP w (fun b => b < w.heap.size) vs[i] as[i]) ∧ TyVs P n ts as ∧ ds.length = ts.length
 | [], vs, ds, ps, h, _, _, _ => by
  obtain ⟨rfl, rfl, rfl⟩ := trodAll_nil h
  exact ⟨[], rfl, fun i h => by simp at h, trivial, rfl⟩
 | t :: ts, vs, ds, ps, h, hv, hok, hw => by
  obtain ⟨v, vs, d, ds, p, q, rfl, rfl, rfl, hd, hr⟩ := trodAll_cons h
  simp only [DataW.weightsEach] at hw
  obtain ⟨xs, h1, h2⟩ := open_V hd (hv 0 t v rfl rfl) (hok t (by simp)) (fun k hk => hw k (List.mem_append_left _ hk))
  obtain ⟨as, h3, h4, h5, h6⟩ := open_args ts vs ds q hr (fun j t v h h' => hv (j + 1) t v (by simpa using h) (by simpa using h')) (fun t ht => hok t (by simp [ht])) (fun k hk => hw k (List.mem_append_right _ hk))
  refine ⟨mkA (shOf P t) xs :: as, by simp [h3], fun i hi hi' => ?_, ⟨⟨xs, h2, rfl⟩, h5⟩, by simp [h6]⟩
  cases i with
  | zero => exact h1
  | succ i => exact h4 i (by simpa using hi) (by simpa using hi')
theorem keep_args {w' : World} (hl : laidOutB P = true) (hb : Below w.heap.size w w') : ∀ (ts : List TypeId) (vs : List Value) (ds : List (DataW H)) (ps : List MemPlace), DataW.TrodAll enc P w 0 (fun _ => true) true ts vs ds ps →
  (∀ t ∈ ts, P.readableRec t = true ∧ t < P.types.size) → DataW.TrodAll enc P w' 0 (fun b => decide (b < w.heap.size)) true ts vs ds ps
 | [], vs, ds, ps, h, _ => by
  obtain ⟨rfl, rfl, rfl⟩ := trodAll_nil h
  exact trodAll_mk0
 | t :: ts, vs, ds, ps, h, hok => by
  obtain ⟨v, vs, d, ds, p, q, rfl, rfl, rfl, hd, hr⟩ := trodAll_cons h
  refine ⟨p, q, ?_, keep_args hl hb ts vs ds q hr (fun t ht => hok t (by simp [ht])), rfl⟩
  have hlt : ∀ x ∈ p, x.block < w.heap.size := by obtain ⟨m, hm⟩ := hd; exact DataW.trod_lt m _ _ _ hm
  exact Below.trod hl (hok t (by simp)).1 (hok t (by simp)).2 hd hb hlt
theorem law_lifted {C : Checked} {f : FuncId} {fn : Func} {s : ChangeSpec} {conds : List PathCond} {os : Os} (n : Nat) (started : os.Started) (own : ownKnob C.prog.godebug = none) (hl : laidOutB C.prog = true) (hvs : s.vars = []) (hvt : s.plain.varTypes C.prog = [])
  (noInit : C.prog.inits.idxOf? f = none) (hfn : C.prog.funcs[f]? = some fn)
  (witness : ∃ (w : World) (tape : Tape) (i : Input), w.os = os ∧ (w.forCall tape i).Shaped C.prog ∧ i.vars = [] ∧ Input.okWide C.prog (w.forCall tape i) .any w.heap.size f i ∧
   s.pre6 enc C.prog fn conds false (w.forCall tape i).memory i.args ∧ ({} : Assume).holds C.prog (lone (Frame.enter C.prog f i.args .normal) [] (w.forCall tape i)))
  (tb : TypeId) (hrt : fn.resultTypes = #[tb]) (hb : C.prog.underlying tb = some .bool) (hok : (fn.params.toList.all fun t => tyOk C.prog n t && C.prog.readableRec t && decide (t < C.prog.types.size)) = true)
  (hspec : ∀ ds : List (DataW H), ds.length = fn.params.toList.length → s.fn H ds = { results := [.lit (.bool true)], args := ds })
  (hlaw : ∀ as, TyVs C.prog n fn.params.toList as → ACalls C.prog f as [] (.bool true) []) :
  ReturnsInHanded {} C os f .any (s.pre6 enc C.prog fn conds false) (s.post enc C.prog fn false true false false) := by
 refine returnsInHanded_of_change_sized own started noInit hfn witness ?_
 intro W base args ds gs before hval hW _ hsz _
 have hW' := hW
 obtain ⟨p, q, hA, hV, rfl, _, _⟩ := hW
 rw [hvs] at hV
 obtain ⟨rfl, rfl⟩ := trodVars_none hV
 rw [hvt] at hsz
 simp only [List.append_nil, List.all_eq_true, decide_eq_true_eq] at hsz
 simp only [List.all_eq_true, Bool.and_eq_true, decide_eq_true_eq] at hok
 obtain ⟨as, h1, h2, h3, h4⟩ := open_args (n := n) (b0 := base) _ _ _ _ hA (fun j t v h h' => hval j t v (by simpa using h) (by simpa using h')) (fun t ht => (hok t ht).1.1) hsz
 obtain ⟨_, hcall⟩ := hlaw as h3
 let Cx : Ctx := { w := W, F := fun _ => False, β := fun _ => 0, H := [] }
 have hCx : HRep Cx := {
  inj := fun i j k m h => by simp [Cx] at h
  notF := fun i k h => by simp [Cx] at h
  Flt := fun b h => h.elim
  sz := fun i k sh es h => by simp [Cx] at h
  row := fun i k sh es h => by simp [Cx] at h
  map := fun i es h => by simp [Cx] at h }
 refine (hcall Cx rfl hCx args (by simpa using h1) fun i hi => ?_).mono fun e W' he => ?_
 ·have hi' : i < args.toList.length := by omega
  have := h2 i hi' hi
  have hlt : i < args.size := by simpa using hi'
  rw [Array.getD_eq_getD_getElem?, Array.getElem?_eq_getElem hlt, Option.getD_some]
  refine RP.RA (this.mono fun b hb => ⟨⟨hb, fun h => h, ?_⟩, rfl⟩)
  rintro ⟨id, k, hk, _⟩
  simp [Cx] at hk
 ·obtain ⟨v, C', rfl, rfl, hH, hE, _, hv⟩ := he
  have hv : v = .bool true := hv.bool
  subst hv
  have bel : Below W.heap.size W C'.w := ⟨hE.os, hE.tape, hE.output, hE.size, fun k hk => hE.keep k hk (fun ⟨id, k, hk, _⟩ => by simp [Cx] at hk)⟩
  refine ⟨_, rfl, ds, [], _, [], p, [], hW', ?_, ?_, ?_, bel.frame _, fun h => by cases h⟩
  ·rw [List.append_nil, hspec ds h4, hrt]
   exact trodAll_mk1 (shut_bool hb _)
  ·rw [List.append_nil, hspec ds h4]
   exact keep_args hl bel _ _ _ _ hA (fun t ht => ⟨(hok t ht).1.2, (hok t ht).2⟩)
  ·rw [List.append_nil, hspec ds h4, hvs]
   rfl
end
end Go.Bv
namespace Go.Bv
open Go
theorem NB.mk {b : Bool} {T E : Prop} (ht : b = true → T) (he : b = false → E) : NB b T E := by cases b; exact he rfl; exact ht rfl
theorem ND.dec {p : Prop} {T E : Prop} (ht : p → T) (he : ¬p → E) : ND p T E := (Classical.em p).elim (fun h => .yes h (ht h)) (fun h => .no h (he h))
theorem NB.dec {p : Prop} {T E : Prop} (ht : p → T) (he : ¬p → E) : ND p T E := ND.dec ht he
theorem NG.map {α : Type} {f : α → AV} {l : List α} {i : Nat} {next : AV → Prop} (h : i < l.length) (hn : next (f l[i])) : NG (l.map f) i next :=
 ⟨_, by rw [List.getElem?_eq_getElem (by simpa using h), List.getElem_map], hn⟩
theorem NG.mapE {α : Type} {f : α → AV} {l : List α} {i j : Nat} {next : AV → Prop} (e : i = j) (h : j < l.length) (hn : next (f l[j])) : NG (l.map f) i next := by
 subst e; exact NG.map h hn
theorem NG.get {l : List AV} {i : Nat} {next : AV → Prop} (h : i < l.length) (hn : next l[i]) : NG l i next :=
 ⟨_, List.getElem?_eq_getElem h, hn⟩
/-- A call of a contract that owns nothing. -/
theorem NCall.call {P : Program} {f : FuncId} {args : List AV} {H : List Blk} {r : AV} {next : AV → List Blk → Prop} (h : ACalls P f args [] r []) (ha : args.all AV.noOwn = true) (hr : r.shT H.length = r) (hn : next r H) : NCall P f args H next :=
 ⟨r, H, by have := h.frame ha H; rw [hr] at this; simpa using this, hn⟩
/-- A call of a contract, at what it owns. -/
theorem NCall.at {P : Program} {f : FuncId} {args : List AV} {H H' : List Blk} {r : AV} {next : AV → List Blk → Prop} (h : ACalls P f args H r H') (hn : next r H') : NCall P f args H next := ⟨r, H', h, hn⟩
/-- No region draws its order. -/
def noDr : List Oper → Fr → List Blk → (Fr → List Blk → Prop) → Prop := fun _ _ _ _ => False
theorem noDr_snd {P : Program} {n : Nat} : DrSnd P n noDr := fun _ _ _ _ _ _ _ _ _ h => h.elim
theorem wrap_u64 (n : Int) : IntKind.wrap .u64 n = n % 18446744073709551616 := by simp [IntKind.wrap, IntKind.bits, IntKind.signed]
theorem wrap_u8 (n : Int) : IntKind.wrap .u8 n = n % 256 := by simp [IntKind.wrap, IntKind.bits, IntKind.signed]
theorem wrap_i64 (n : Int) (h1 : -9223372036854775808 ≤ n) (h2 : n < 9223372036854775808) : IntKind.wrap .i64 n = n := by
 have e : IntKind.wrap .i64 n = if n % 18446744073709551616 ≥ 9223372036854775808 then n % 18446744073709551616 - 18446744073709551616 else n % 18446744073709551616 := by
  simp [IntKind.wrap, IntKind.bits, IntKind.signed]
 rw [e]
 split <;> omega
theorem NW.i64 {n : Int} {next : Int → Prop} (h1 : -9223372036854775808 ≤ n) (h2 : n < 9223372036854775808) (hn : next n) : NW .i64 n next := ⟨n, (wrap_i64 n h1 h2).symm, hn⟩
def u32 (x : BitVec 32) : AV := .int .u32 x.toNat
def u64 (x : BitVec 64) : AV := .int .u64 x.toNat
def u8 (x : UInt8) : AV := .int .u8 x.toNat
def i64 (n : Int) : AV := .int .i64 n
theorem NW.w {n : Int} {next : Int → Prop} (hn : next n) (h1 : -9223372036854775808 ≤ n := by omega) (h2 : n < 9223372036854775808 := by omega) : NW .i64 n next := NW.i64 h1 h2 hn
end Go.Bv
namespace Go.Bv
open Go
def bytes (l : List UInt8) : AV := .list .leaf (l.map u8)
theorem list_of' {α : Type} {f : α → AV} {ok : α → Prop} : ∀ {l : List AV}, (∀ x ∈ l, ∃ a, x = f a ∧ ok a) → ∃ l' : List α, l = l'.map f ∧ ∀ a ∈ l', ok a
 | [], _ => ⟨[], rfl, fun _ h => by cases h⟩
 | x :: r, h => by
  obtain ⟨a, rfl, ha⟩ := h x (by simp)
  obtain ⟨l', rfl, hl⟩ := list_of' (l := r) fun y hy => h y (by simp [hy])
  exact ⟨a :: l', rfl, fun b hb => by rcases List.mem_cons.1 hb with rfl | hb <;> first | exact ha | exact hl b hb⟩
section
variable {P : Program} {n : Nat} {t e : TypeId} {xs : List AV}
theorem shOf_int {k : IntKind} (h : P.underlying t = some (.int k)) : shOf P t = .leaf := by unfold shOf; rw [h]; rfl
theorem shOf_str (h : P.underlying t = some .string) : shOf P t = .leaf := by unfold shOf; rw [h]; rfl
theorem shOf_slice (h : P.underlying t = some (.slice e)) : shOf P t = .leaf := by unfold shOf; rw [h]; rfl
theorem shOf_struct {fs : Array Field} (h : P.underlying t = some (.struct fs)) : shOf P t = .agg (P.cellsOf t) := by unfold shOf; rw [h]; rfl
theorem ty_int {k : IntKind} (h : TyC P n t xs) (ht : P.underlying t = some (.int k)) : ∃ z, xs = [.int k z] ∧ k.min ≤ z ∧ z ≤ k.max := by
 cases n with
 | zero => exact h.elim
 | succ n => simp only [TyC, ht] at h; exact h
theorem ty_str (h : TyC P n t xs) (ht : P.underlying t = some .string) : ∃ s : List UInt8, xs = [.str s] ∧ s.length ≤ reachBytes := by
 cases n with
 | zero => exact h.elim
 | succ n => simp only [TyC, ht] at h; exact h
theorem ty_slice (h : TyC P n t xs) (ht : P.underlying t = some (.slice e)) : ∃ l, xs = [.list (shOf P e) l] ∧ l.length * P.bytesOf e ≤ reachBytes ∧ ∀ x ∈ l, ∃ xs, TyC P (n - 1) e xs ∧ x = mkA (shOf P e) xs := by
 cases n with
 | zero => exact h.elim
 | succ n => simp only [TyC, ht] at h; exact h
theorem ty_struct {fs : Array Field} (h : TyC P n t xs) (ht : P.underlying t = some (.struct fs)) : xs.length = P.cellsOf t ∧ ∀ f ∈ fs.toList, TyC P (n - 1) f.type ((xs.drop f.offset).take (P.cellsOf f.type)) := by
 cases n with
 | zero => exact h.elim
 | succ n => simp only [TyC, ht] at h; exact h
theorem ty_i64 (h : TyC P n t xs) (ht : P.underlying t = some (.int .i64)) : ∃ z : Int, xs = [i64 z] ∧ -9223372036854775808 ≤ z ∧ z < 9223372036854775808 := by
 obtain ⟨z, rfl, h1, h2⟩ := ty_int h ht
 have h1 : -(2 ^ 63 : Int) ≤ z := h1
 have h2 : z ≤ 2 ^ 63 - 1 := h2
 exact ⟨z, rfl, by omega, by omega⟩
end
theorem reach_lt {n : Nat} (h : n ≤ reachBytes) : n < 2 ^ 47 := Nat.lt_of_le_of_lt h reachBytes_lt
/-- A call, its arguments said otherwise. -/
theorem NCall.eq {P : Program} {f : FuncId} {args args' : List AV} {H : List Blk} {next : AV → List Blk → Prop} (he : args = args') (h : NCall P f args' H next) : NCall P f args H next := he ▸ h
theorem NG.mapN {α : Type} {f : α → AV} {l : List α} {j : Nat} {next : AV → Prop} (h : j < l.length) (hn : next (f l[j])) : NG (l.map f) (Int.toNat (j : Int)) next := NG.map h hn
/-- A comparison's answer, for a region whose order is open. -/
theorem NB.det {p : Prop} [Decidable p] {H : List Blk} : ND p (AV.bool true = AV.bool (decide p) ∧ H = H) (AV.bool false = AV.bool (decide p) ∧ H = H) :=
 ND.dec (fun h => ⟨by rw [decide_eq_true h], rfl⟩) (fun h => ⟨by rw [decide_eq_false h], rfl⟩)
theorem NB.det' {p : Prop} [Decidable p] {H : List Blk} : ND p (AV.bool false = AV.bool (!decide p) ∧ H = H) (AV.bool true = AV.bool (!decide p) ∧ H = H) :=
 ND.dec (fun h => ⟨by rw [decide_eq_true h]; rfl, rfl⟩) (fun h => ⟨by rw [decide_eq_false h]; rfl, rfl⟩)
theorem NB.det0' {b : Bool} {H : List Blk} : NB b (AV.bool false = AV.bool (!b) ∧ H = H) (AV.bool true = AV.bool (!b) ∧ H = H) := by cases b <;> exact ⟨rfl, rfl⟩
theorem TyVs.cons {P : Program} {n : Nat} {t : TypeId} {ts : List TypeId} : ∀ {l : List AV}, TyVs P n (t :: ts) l → ∃ xs l', l = mkA (shOf P t) xs :: l' ∧ TyC P n t xs ∧ TyVs P n ts l'
 | [], h => h.elim
 | _ :: l, ⟨⟨xs, h1, h2⟩, h⟩ => ⟨xs, l, by rw [h2], h1, h⟩
theorem TyVs.nil {P : Program} {n : Nat} : ∀ {l : List AV}, TyVs P n [] l → l = []
 | [], _ => rfl
 | _ :: _, h => h.elim
/-- A call that gets an owned row for good. -/
theorem NCall.frz {P : Program} {f : FuncId} {args args' : List AV} {H : List Blk} {r : AV} {next : AV → List Blk → Prop} (id : Nat) (h : ACalls P f args' [] r []) (hl : LentAs H (· = id) args args') (ha : args'.all AV.noOwn = true) (hr : r.shT (H.set id .dead).length = r) (hn : next r (H.set id .dead)) : NCall P f args H next := by
 refine ⟨r, H.set id .dead, ACalls.freeze id ?_ hl, hn⟩
 have := h.frame ha (H.set id .dead)
 rw [hr] at this; simpa using this
end Go.Bv
namespace Go.Bv
open Go
theorem NCall.atN {P : Program} {f : FuncId} {args : List AV} {H H' H'' : List Blk} {r r' : AV} {next : AV → List Blk → Prop} (h : ACalls P f args H r H') (er : r = r') (eH : H' = H'') (hn : next r' H'') : NCall P f args H next := by
 subst er eH; exact ⟨r, H', h, hn⟩
mutual
theorem Lent.split {H : List Blk} {i : Nat} {r : List Nat} : ∀ {a a'' : AV}, Lent H (· ∈ i :: r) a a'' → ∃ a', Lent H (· = i) a a' ∧ Lent (H.set i .dead) (· ∈ r) a' a''
 | _, _, .same a => ⟨a, .same a, .same a⟩
 | _, _, @Lent.own _ _ id off len kk sh es l hL hid hk hle hl => by
  by_cases h : id = i
  ·exact ⟨_, .own h hid hk hle hl, .same _⟩
  ·refine ⟨_, .same _, .own ((List.mem_cons.1 hL).resolve_left h) ?_ hk hle hl⟩
   rw [List.getElem?_set_ne (fun e => h e.symm)]; exact hid
 | _, _, .agg h => by
  obtain ⟨l, h1, h2⟩ := LentAs.split h
  exact ⟨_, .agg h1, .agg h2⟩
theorem LentAs.split {H : List Blk} {i : Nat} {r : List Nat} : ∀ {a a'' : List AV}, LentAs H (· ∈ i :: r) a a'' → ∃ a', LentAs H (· = i) a a' ∧ LentAs (H.set i .dead) (· ∈ r) a' a''
 | _, _, .nil => ⟨[], .nil, .nil⟩
 | _, _, .cons h hs => by
  obtain ⟨x, h1, h2⟩ := Lent.split h
  obtain ⟨l, h3, h4⟩ := LentAs.split hs
  exact ⟨_, .cons h1 h3, .cons h2 h4⟩
end
mutual
theorem Lent.none {H : List Blk} : ∀ {a a' : AV}, Lent H (· ∈ ([] : List Nat)) a a' → a = a'
 | _, _, .same a => rfl
 | _, _, .own hL _ _ _ _ => nomatch hL
 | _, _, .agg h => by rw [LentAs.none h]
theorem LentAs.none {H : List Blk} : ∀ {a a' : List AV}, LentAs H (· ∈ ([] : List Nat)) a a' → a = a'
 | _, _, .nil => rfl
 | _, _, .cons h hs => by rw [Lent.none h, LentAs.none hs]
end
def killAll : List Blk → List Nat → List Blk
 | H, [] => H
 | H, i :: r => killAll (H.set i .dead) r
theorem ACalls.freezeAll {P : Program} {f : FuncId} {r : AV} {H' : List Blk} : ∀ (ids : List Nat) {H : List Blk} {args args' : List AV}, ACalls P f args' (killAll H ids) r H' → LentAs H (· ∈ ids) args args' → ACalls P f args H r H'
 | [], _, _, _, h, hl => by rw [LentAs.none hl]; exact h
 | i :: q, _, _, _, h, hl => by
  obtain ⟨a, h1, h2⟩ := LentAs.split hl
  exact ACalls.freeze i (ACalls.freezeAll q h h2) h1
theorem NCall.frzAllN {P : Program} {f : FuncId} {args args' : List AV} {H H'' : List Blk} {r : AV} {next : AV → List Blk → Prop} (ids : List Nat) (h : ACalls P f args' [] r []) (hl : LentAs H (· ∈ ids) args args') (ha : args'.all AV.noOwn = true)
  (hr : r.shT (killAll H ids).length = r) (eH : killAll H ids = H'') (hn : next r H'') : NCall P f args H next := by
 subst eH
 refine ⟨r, killAll H ids, ACalls.freezeAll ids ?_ hl, hn⟩
 have := h.frame ha (killAll H ids)
 rw [hr] at this; simpa using this
theorem NApp.enddN {H H'' : List Blk} {id off len : Nat} {kk : RK} {sh : Sh} {es xs es' : List AV} {bytes n l : Nat} {next : AV → List Blk → Prop} (h0 : off = 0) (h1 : len = es.length) (hb : (es.length + xs.length) * bytes ≤ 2 ^ 46)
  (en : H.length = n) (ee : es ++ xs = es') (el : (es ++ xs).length = l) (eH : H.set id .dead ++ [.row kk sh es'] = H'') (hn : next (.own n 0 l) H'') : NApp H id off len kk sh es xs bytes next := by
 subst en ee el eH; exact .endd h0 h1 hb hn
theorem NApp.inplN {H H'' : List Blk} {id off len : Nat} {kk : RK} {sh : Sh} {es xs es' : List AV} {bytes l : Nat} {next : AV → List Blk → Prop} (h1 : off + len + xs.length ≤ es.length) (el : len + xs.length = l)
  (ee : es.take (off + len) ++ (xs ++ es.drop (off + len + xs.length)) = es') (eH : H.set id (.row kk sh es') = H'') (hn : next (.own id off l) H'') : NApp H id off len kk sh es xs bytes next := by
 subst ee el eH; exact .inpl h1 hn
end Go.Bv
namespace Go.Bv
open Go
def AV.rn1 (ρ : Nat → Nat) : AV → AV
 | .own id off len => .own (ρ id) off len
 | .ptr id i o => .ptr (ρ id) i o
 | .map id => .map (ρ id)
 | a => a
def AV.rnR (ρ : Nat → Nat) : AV → AV
 | .fn f caps => .fn f (caps.map (AV.rn1 ρ))
 | a => a.rn1 ρ
def AV.rnA (ρ : Nat → Nat) : AV → AV
 | .agg cs => .agg (cs.map (AV.rnR ρ))
 | a => a.rnR ρ
def AV.rnT (ρ : Nat → Nat) : AV → AV
 | .tup vs => .tup (vs.map (AV.rnA ρ))
 | a => a.rnA ρ
def Blk.rn (ρ : Nat → Nat) : Blk → Blk
 | .row .box sh es => .row .box sh (es.map (AV.rnA ρ))
 | b => b
theorem Blk.rn_live {ρ : Nat → Nat} {b : Blk} : (b.rn ρ).live ↔ b.live := by
 cases b with
 | dead => exact Iff.rfl
 | ro sh es => exact Iff.rfl
 | map es => exact Iff.rfl
 | row k sh es => cases k <;> exact Iff.rfl
theorem Blk.rn_row {ρ : Nat → Nat} {b : Blk} {k : RK} {sh : Sh} {es : List AV} (h : b.rn ρ = .row k sh es) : ∃ es0, b = .row k sh es0 ∧ es.length = es0.length ∧ ((k = .box ∧ es = es0.map (AV.rnA ρ)) ∨ (k ≠ .box ∧ es = es0)) := by
 cases b with
 | dead => simp [Blk.rn] at h
 | ro sh es => simp [Blk.rn] at h
 | map es => simp [Blk.rn] at h
 | row k' sh' es' =>
  cases k' <;> simp only [Blk.rn, Blk.row.injEq] at h <;> obtain ⟨rfl, rfl, rfl⟩ := h
  ·exact ⟨_, rfl, by simp, .inl ⟨rfl, rfl⟩⟩
  ·exact ⟨_, rfl, rfl, .inr ⟨by simp, rfl⟩⟩
  ·exact ⟨_, rfl, rfl, .inr ⟨by simp, rfl⟩⟩
theorem Blk.rn_row' {ρ : Nat → Nat} {k : RK} {sh : Sh} {es : List AV} : ∃ es', (Blk.row k sh es).rn ρ = .row k sh es' ∧ es'.length = es.length ∧ (k ≠ .box → es' = es) ∧ (k = .box → es' = es.map (AV.rnA ρ)) := by
 cases k
 ·exact ⟨_, rfl, by simp, by simp, fun _ => rfl⟩
 ·exact ⟨_, rfl, rfl, fun _ => rfl, by simp⟩
 ·exact ⟨_, rfl, rfl, fun _ => rfl, by simp⟩
theorem Blk.rn_map {ρ : Nat → Nat} {b : Blk} {es : List (AV × AV)} (h : b.rn ρ = .map es) : b = .map es := by
 cases b with
 | dead => simp [Blk.rn] at h
 | ro sh es => simp [Blk.rn] at h
 | map es => exact h
 | row k' sh' es' => cases k' <;> simp [Blk.rn] at h
theorem Blk.rn_ro {ρ : Nat → Nat} {b : Blk} {sh : Sh} {es : List AV} (h : b.rn ρ = .ro sh es) : b = .ro sh es := by
 cases b with
 | dead => simp [Blk.rn] at h
 | ro sh es => exact h
 | map es => simp [Blk.rn] at h
 | row k' sh' es' => cases k' <;> simp [Blk.rn] at h
/-- The outer number of a callee's block: those of S come first, new ones go behind all. -/
def rho (S : List Nat) (n : Nat) (i : Nat) : Nat :=
 match S[i]? with
 | some j => j
 | none => i - S.length + n
def setAll : List Blk → List Nat → List Blk → List Blk
 | H, s :: S, b :: R => setAll (H.set s b) S R
 | H, _, _ => H
theorem setAll_len : ∀ (S : List Nat) (R H : List Blk), (setAll H S R).length = H.length
 | [], R, H => by cases R <;> rfl
 | s :: S, [], H => rfl
 | s :: S, b :: R, H => by rw [setAll, setAll_len S R]; simp
theorem setAll_out : ∀ (S : List Nat) (R H : List Blk) (j : Nat), j ∉ S → (setAll H S R)[j]? = H[j]?
 | [], R, H, j, _ => by cases R <;> rfl
 | s :: S, [], H, j, _ => rfl
 | s :: S, b :: R, H, j, h => by
  rw [setAll, setAll_out S R _ j (fun hh => h (List.mem_cons_of_mem _ hh)), List.getElem?_set_ne (fun e => h (by rw [e]; exact List.mem_cons_self ..))]
theorem setAll_in : ∀ (S : List Nat) (R H : List Blk) (i j : Nat), S.Nodup → R.length = S.length → S[i]? = some j → j < H.length → (setAll H S R)[j]? = R[i]?
 | [], R, H, i, j, _, _, h, _ => by simp at h
 | s :: S, [], H, i, j, _, h, _, _ => by simp at h
 | s :: S, b :: R, H, i, j, hn, hl, h, hj => by
  rw [setAll]
  have hn' := List.nodup_cons.1 hn
  cases i with
  | zero =>
   simp only [List.getElem?_cons_zero, Option.some.injEq] at h
   subst h
   rw [setAll_out S R _ s hn'.1]
   simp [hj]
  | succ i =>
   rw [setAll_in S R _ i j hn'.2 (by simpa using hl) (by simpa using h) (by simpa using hj)]
   simp
/-- The blocks of S, and nothing else, are the callee's. -/
def Ctx.sub (C : Ctx) (S : List Nat) (H0 : List Blk) : Ctx := { w := C.w, F := fun b => C.F b ∨ ∃ id k, C.H[id]? = some k ∧ k.live ∧ C.β id = b ∧ id ∉ S, β := fun i => C.β (rho S C.H.length i), H := H0 }
structure Sel (C : Ctx) (S : List Nat) (H0 : List Blk) : Prop where
 nd : S.Nodup
 len : H0.length = S.length
 get : ∀ (i : Nat) (b : Blk), H0[i]? = some b → ∃ j, S[i]? = some j ∧ C.H[j]? = some (b.rn (rho S C.H.length))
section
variable {C : Ctx} {S : List Nat} {H0 : List Blk} (hC : HRep C) (hS : Sel C S H0)
include hS
theorem Sel.at {i : Nat} (hi : i < S.length) : ∃ b, H0[i]? = some b ∧ C.H[S[i]]? = some (b.rn (rho S C.H.length)) ∧ rho S C.H.length i = S[i] := by
 have hi0 : i < H0.length := by rw [hS.len]; exact hi
 obtain ⟨j, hj, hb⟩ := hS.get i H0[i] (List.getElem?_eq_getElem hi0)
 rw [List.getElem?_eq_getElem hi] at hj
 cases hj
 exact ⟨_, List.getElem?_eq_getElem hi0, hb, by simp [rho, List.getElem?_eq_getElem hi]⟩
theorem Sel.lt {j : Nat} (hj : j ∈ S) : j < C.H.length := by
 obtain ⟨i, hi, rfl⟩ := List.mem_iff_getElem.1 hj
 obtain ⟨b, _, h, _⟩ := hS.at hi
 exact (List.getElem?_eq_some_iff.1 h).1
theorem sub_owned {b : Nat} (h : (C.sub S H0).owned b) : C.owned b := by
 obtain ⟨i, k, hk, hl, rfl⟩ := h
 have hi : i < S.length := by rw [← hS.len]; exact (List.getElem?_eq_some_iff.1 hk).1
 obtain ⟨b, h1, h2, h3⟩ := hS.at hi
 have hk : H0[i]? = some k := hk
 rw [h1] at hk; cases hk
 exact ⟨S[i], _, h2, Blk.rn_live.2 hl, by rw [← h3]; rfl⟩
theorem sub_G {b : Nat} (h : C.G b) : (C.sub S H0).G b :=
 ⟨h.1, fun hf => hf.elim h.2.1 fun ⟨id, k, h1, h2, h3, _⟩ => h.2.2 ⟨id, k, h1, h2, h3⟩, fun ho => h.2.2 (sub_owned hS ho)⟩
theorem sub_RP {v : Value} {a : AV} (r : RP C.w C.G v a) : RP (C.sub S H0).w (C.sub S H0).G v a := r.mono fun b hb => ⟨sub_G hS hb, rfl⟩
theorem sub_RL {v : Value} {a : AV} (r : RL C v (a.rn1 (rho S C.H.length))) : RL (C.sub S H0) v a := by
 have small : ∀ {id : Nat}, rho S C.H.length id < C.H.length → id < S.length := by
  intro id h
  unfold rho at h
  split at h
  ·rename_i hj; exact (List.getElem?_eq_some_iff.1 hj).1
  ·omega
 cases a with
 | own id off len =>
  obtain ⟨h1, h2, h3, h4, h5⟩ := r
  have hid := small h2
  obtain ⟨b, g1, g2, g3⟩ := hS.at hid
  refine ⟨h1, by show id < H0.length; rw [hS.len]; exact hid, fun k sh es he => ?_, fun k sh es he => ?_, fun sh es he => ?_⟩
  ·have he : H0[id]? = some (.row k sh es) := he
   rw [g1] at he; cases he
   obtain ⟨es', e1, e2, _, _⟩ := Blk.rn_row' (ρ := rho S C.H.length) (k := k) (sh := sh) (es := es)
   obtain ⟨hn, hl⟩ := h3 k sh es' (by rw [g3, g2, e1])
   refine ⟨fun hd => hn fun hh => hd (Blk.live_row e2 hh), fun hh => ?_⟩
   obtain ⟨cap, q1, q2, q3, q4⟩ := hl (Blk.live_row e2.symm hh)
   exact ⟨cap, q1, q2, by omega, q4⟩
  ·have he : H0[id]? = some (.row k sh es) := he
   rw [g1] at he; cases he
   obtain ⟨es', e1, e2, _, _⟩ := Blk.rn_row' (ρ := rho S C.H.length) (k := k) (sh := sh) (es := es)
   have := h4 k sh es' (by rw [g3, g2, e1])
   omega
  ·have he : H0[id]? = some (.ro sh es) := he
   rw [g1] at he; cases he
   obtain ⟨q1, q2⟩ := h5 sh es (by rw [g3, g2]; rfl)
   exact ⟨q1, sub_RP hS q2⟩
 | ptr id i o =>
  obtain ⟨h1, h2, h3⟩ := r
  have hid := small h2
  obtain ⟨b, g1, g2, g3⟩ := hS.at hid
  refine ⟨h1, by show id < H0.length; rw [hS.len]; exact hid, fun k sh es he => ?_⟩
  have he : H0[id]? = some (.row k sh es) := he
  rw [g1] at he; cases he
  obtain ⟨es', e1, e2, _, _⟩ := Blk.rn_row' (ρ := rho S C.H.length) (k := k) (sh := sh) (es := es)
  exact h3 k sh es' (by rw [g3, g2, e1])
 | map id =>
  obtain ⟨h1, h2, h3⟩ := r
  have hid := small h2
  obtain ⟨b, g1, g2, g3⟩ := hS.at hid
  refine ⟨h1, by show id < H0.length; rw [hS.len]; exact hid, fun es he => ?_⟩
  have he : H0[id]? = some (.map es) := he
  rw [g1] at he; cases he
  exact h3 es (by rw [g3, g2]; rfl)
 | undef => trivial
 | fn _ _ => exact (show False from r).elim
 | tup _ => exact (show False from r).elim
 | agg _ => exact (show False from r).elim
 | _ => exact sub_RP hS r
theorem sub_R1 {v : Value} {a : AV} (r : R1 C v (a.rnR (rho S C.H.length))) : R1 (C.sub S H0) v a := by
 cases a with
 | fn f caps =>
  obtain ⟨cv, hv, hsz, hc⟩ := r
  refine ⟨cv, hv, by simpa using hsz, fun i hi => sub_RL hS ?_⟩
  have := hc i (by simpa using hi)
  simpa using this
 | own a b c => exact sub_RL hS (a := .own a b c) r
 | ptr a b c => exact sub_RL hS (a := .ptr a b c) r
 | map a => exact sub_RL hS (a := .map a) r
 | undef => trivial
 | tup _ => exact (show False from r).elim
 | agg _ => exact (show False from r).elim
 | _ => exact sub_RP hS r
theorem sub_RA {v : Value} {a : AV} (r : RA C v (a.rnA (rho S C.H.length))) : RA (C.sub S H0) v a := by
 cases a with
 | agg cs =>
  obtain ⟨vs, hv, hsz, hc, ho⟩ := r
  refine ⟨vs, hv, by simpa using hsz, fun i hi => sub_R1 hS ?_, ho⟩
  have := hc i (by simpa using hi)
  simpa using this
 | fn f caps => exact sub_R1 hS (a := .fn f caps) r
 | own a b c => exact sub_R1 hS (a := .own a b c) r
 | ptr a b c => exact sub_R1 hS (a := .ptr a b c) r
 | map a => exact sub_R1 hS (a := .map a) r
 | undef => trivial
 | tup _ => exact (show False from r).elim
 | _ => exact sub_RP hS r
include hC
theorem sub_rep : HRep (C.sub S H0) := by
 have blk : ∀ {i : Nat} {k : Blk}, (C.sub S H0).H[i]? = some k → ∃ hi : i < S.length, C.H[S[i]]? = some (k.rn (rho S C.H.length)) ∧ (C.sub S H0).β i = C.β S[i] := by
  intro i k hk
  have hk : H0[i]? = some k := hk
  have hi : i < S.length := by rw [← hS.len]; exact (List.getElem?_eq_some_iff.1 hk).1
  obtain ⟨b, h1, h2, h3⟩ := hS.at hi
  rw [h1] at hk; cases hk
  exact ⟨hi, h2, by show C.β (rho S C.H.length i) = _; rw [h3]⟩
 refine ⟨fun i j k m hk hm hlk hlm hb => ?_, fun i k hk hl hf => ?_, fun b hb => ?_, fun i k sh es he => ?_, fun i k sh es he hl => ?_, fun i es he => ?_⟩
 ·obtain ⟨hi, h1, h2⟩ := blk hk
  obtain ⟨hj, h3, h4⟩ := blk hm
  rw [h2, h4] at hb
  exact (List.getElem_inj hS.nd).1 (hC.inj _ _ _ _ h1 h3 (Blk.rn_live.2 hlk) (Blk.rn_live.2 hlm) hb)
 ·obtain ⟨hi, h1, h2⟩ := blk hk
  rw [h2] at hf
  rcases hf with hf | ⟨id, m, hm, hml, hb, hn⟩
  ·exact hC.notF _ _ h1 (Blk.rn_live.2 hl) hf
  ·have := hC.inj _ _ _ _ hm h1 hml (Blk.rn_live.2 hl) hb
   exact hn (this ▸ List.getElem_mem hi)
 ·rcases hb with h | ⟨id, k, hk, hl, rfl, _⟩
  ·exact hC.Flt b h
  ·exact hC.lt hk hl
 ·obtain ⟨hi, h1, h2⟩ := blk he
  obtain ⟨es', e1, _⟩ := Blk.rn_row' (ρ := rho S C.H.length) (k := k) (sh := sh) (es := es)
  rw [e1] at h1
  exact hC.sz _ _ _ _ h1
 ·obtain ⟨hi, h1, h2⟩ := blk he
  obtain ⟨es', e1, e2, e3, e4⟩ := Blk.rn_row' (ρ := rho S C.H.length) (k := k) (sh := sh) (es := es)
  rw [e1] at h1
  obtain ⟨c, T, fr, hc, q1, q2, q3, q4⟩ := hC.row _ k sh es' h1 (Blk.live_row e2.symm hl)
  refine ⟨c, T, fr, by rw [h2]; exact hc, q1, by rw [← e2]; exact q2, q3, fun j hj => ?_⟩
  obtain ⟨v, r1, r2, r3, r4⟩ := q4 j (by rw [e2]; exact hj)
  refine ⟨v, ?_, fun hk => ?_, r3, r4⟩
  ·by_cases hk : k = .box
   ·have e5 := e4 hk
    subst e5
    exact sub_RA hS (by simpa using r1)
   ·have e5 := e3 hk
    subst e5
    exact (sub_RP hS (r2 hk)).RA
  ·have e5 := e3 hk
   subst e5
   exact sub_RP hS (r2 hk)
 ·obtain ⟨hi, h1, h2⟩ := blk he
  obtain ⟨me, cl, hm, q1, q2⟩ := hC.map _ es h1
  refine ⟨me, cl, by rw [h2]; exact hm, q1, fun j hj => ?_⟩
  obtain ⟨m, r1, r2, r3⟩ := q2 j hj
  exact ⟨m, r1, sub_RP hS r2, sub_RP hS r3⟩
end
/-- What the callee left, beside what was not its own. -/
def Ctx.back (C : Ctx) (S : List Nat) (D : Ctx) : Ctx :=
 {w := D.w, F := C.F, β := fun j => if j < C.H.length then C.β j else D.β (j - C.H.length + S.length),
  H := setAll C.H S ((D.H.take S.length).map (Blk.rn (rho S C.H.length))) ++ (D.H.drop S.length).map (Blk.rn (rho S C.H.length)) }
section
variable {C D : Ctx} {S : List Nat} {H0 : List Blk} (hC : HRep C) (hS : Sel C S H0) (hE : Ext (C.sub S H0) D)
include hS hE
theorem back_len : S.length ≤ D.H.length := by have := hE.len; have e : (C.sub S H0).H = H0 := rfl; rw [e, hS.len] at this; exact this
/-- A callee's block, from outside. -/
theorem back_in {i : Nat} (hi : i < D.H.length) : (C.back S D).H[rho S C.H.length i]? = (D.H[i]?).map (Blk.rn (rho S C.H.length)) ∧ (C.back S D).β (rho S C.H.length i) = D.β i ∧ rho S C.H.length i < (C.back S D).H.length := by
 have hle := back_len hS hE
 have hsl : (setAll C.H S ((D.H.take S.length).map (Blk.rn (rho S C.H.length)))).length = C.H.length := setAll_len _ _ _
 have hbl : (C.back S D).H.length = C.H.length + (D.H.length - S.length) := by simp only [Ctx.back, List.length_append, hsl, List.length_map, List.length_drop]
 by_cases h : i < S.length
 ·obtain ⟨b, h1, h2, h3⟩ := hS.at h
  have hj := hS.lt (List.getElem_mem h)
  rw [h3]
  refine ⟨?_, ?_, by rw [hbl]; omega⟩
  ·show (_ ++ _)[S[i]]? = _
   rw [List.getElem?_append_left (by rw [hsl]; exact hj), setAll_in S _ C.H i S[i] hS.nd (by simp; omega) (List.getElem?_eq_getElem h) hj]
   rw [List.getElem?_map, List.getElem?_take_of_lt h]
  ·show (if S[i] < C.H.length then C.β S[i] else _) = _
   rw [if_pos hj]
   have := hE.beta i (by show i < H0.length; rw [hS.len]; exact h)
   rw [this]
   show _ = C.β (rho S C.H.length i)
   rw [h3]
 ·have hr : rho S C.H.length i = i - S.length + C.H.length := by
   unfold rho; rw [List.getElem?_eq_none (by omega)]
  rw [hr]
  refine ⟨?_, ?_, by rw [hbl]; omega⟩
  ·show (_ ++ _)[_]? = _
   rw [List.getElem?_append_right (by rw [hsl]; omega), hsl, List.getElem?_map, List.getElem?_drop]
   congr 2; omega
  ·show (if _ < C.H.length then _ else _) = _
   rw [if_neg (by omega)]
   congr 1; omega
/-- A block from outside: it was not the callee's, or it is. -/
theorem back_get {j : Nat} {m : Blk} (h : (C.back S D).H[j]? = some m) : (j < C.H.length ∧ j ∉ S ∧ C.H[j]? = some m ∧ (C.back S D).β j = C.β j) ∨ ∃ i m0, i < D.H.length ∧ j = rho S C.H.length i ∧ D.H[i]? = some m0 ∧ m = m0.rn (rho S C.H.length) ∧ (C.back S D).β j = D.β i := by
 have hle := back_len hS hE
 have hsl : (setAll C.H S ((D.H.take S.length).map (Blk.rn (rho S C.H.length)))).length = C.H.length := setAll_len _ _ _
 have hbl : (C.back S D).H.length = C.H.length + (D.H.length - S.length) := by simp only [Ctx.back, List.length_append, hsl, List.length_map, List.length_drop]
 have hjl := (List.getElem?_eq_some_iff.1 h).1
 have inner : ∀ i, i < D.H.length → j = rho S C.H.length i → ∃ i m0, i < D.H.length ∧ j = rho S C.H.length i ∧ D.H[i]? = some m0 ∧ m = m0.rn (rho S C.H.length) ∧ (C.back S D).β j = D.β i := by
  intro i hi e
  obtain ⟨h1, h2, _⟩ := back_in hS hE hi
  rw [← e] at h1 h2
  rw [h, List.getElem?_eq_getElem hi] at h1
  exact ⟨i, D.H[i], hi, e, List.getElem?_eq_getElem hi, by simpa using h1, h2⟩
 by_cases hjs : j ∈ S
 ·obtain ⟨i, hi, rfl⟩ := List.mem_iff_getElem.1 hjs
  obtain ⟨_, _, _, h3⟩ := hS.at hi
  exact .inr (inner i (by omega) h3.symm)
 ·by_cases hj : j < C.H.length
  ·refine .inl ⟨hj, hjs, ?_, by show (if j < C.H.length then _ else _) = _; rw [if_pos hj]⟩
   have h : (_ ++ _)[j]? = some m := h
   rw [List.getElem?_append_left (by rw [hsl]; exact hj), setAll_out _ _ _ _ hjs] at h
   exact h
  ·refine .inr (inner (j - C.H.length + S.length) (by omega) ?_)
   unfold rho; rw [List.getElem?_eq_none (by omega)]; simp only; omega
include hC
theorem back_fresh {i : Nat} {k : Blk} (hk : D.H[i]? = some k) (hl : k.live) : C.w.heap.size ≤ D.β i ∨ C.owned (D.β i) := by
 have _ := hC
 by_cases h : i < S.length
 ·obtain ⟨k0, h0, hl0⟩ := hE.live (id := i) (by show i < H0.length; rw [hS.len]; exact h) hk hl
  obtain ⟨b, h1, h2, h3⟩ := hS.at h
  have h0 : H0[i]? = some k0 := h0
  rw [h1] at h0; cases h0
  refine .inr ⟨S[i], _, h2, Blk.rn_live.2 hl0, ?_⟩
  rw [hE.beta i (by show i < H0.length; rw [hS.len]; exact h)]
  show _ = C.β (rho S C.H.length i)
  rw [h3]
 ·rcases hE.fresh i k (by show H0.length ≤ i; rw [hS.len]; omega) hk hl with h1 | h1
  ·exact .inl h1
  ·exact .inr (sub_owned hS h1)
/-- A block that is not the callee's is not among the callee's. -/
theorem back_apart {j : Nat} {k : Blk} (hj : j ∉ S) (hk : C.H[j]? = some k) (hl : k.live) {i : Nat} {m : Blk} (hm : D.H[i]? = some m) (hml : m.live) : C.β j ≠ D.β i := by
 intro e
 have key : ∀ i', i' < S.length → ∀ b, H0[i']? = some b → b.live → C.β S[i']! = C.β j → False := by
  intro i' hi' b hb hbl he
  obtain ⟨b', h1, h2, h3⟩ := hS.at hi'
  rw [h1] at hb; cases hb
  rw [getElem!_pos S i' hi'] at he
  have := hC.inj _ _ _ _ h2 hk (Blk.rn_live.2 hbl) hl he
  exact hj (this ▸ List.getElem_mem hi')
 by_cases h : i < S.length
 ·obtain ⟨k0, h0, hl0⟩ := hE.live (id := i) (by show i < H0.length; rw [hS.len]; exact h) hm hml
  refine key i h k0 h0 hl0 ?_
  rw [getElem!_pos S i h, e, hE.beta i (by show i < H0.length; rw [hS.len]; exact h)]
  show _ = C.β (rho S C.H.length i)
  rw [(hS.at h).choose_spec.2.2]
 ·rcases hE.fresh i m (by show H0.length ≤ i; rw [hS.len]; omega) hm hml with h1 | ⟨i', k', hk', hl', hb'⟩
  ·have := hC.lt hk hl
   have h1 : C.w.heap.size ≤ D.β i := h1
   omega
  ·have hk' : H0[i']? = some k' := hk'
   have hi' : i' < S.length := by rw [← hS.len]; exact (List.getElem?_eq_some_iff.1 hk').1
   refine key i' hi' k' hk' hl' ?_
   rw [getElem!_pos S i' hi', e, ← hb']
   show _ = C.β (rho S C.H.length i')
   rw [(hS.at hi').choose_spec.2.2]
theorem back_G {b : Nat} (h : D.G b) : (C.back S D).G b := by
 have _ := hC
 obtain ⟨h1, h2, h3⟩ := h
 refine ⟨h1, fun hf => h2 (by rw [hE.F]; exact .inl hf), fun ⟨j, m, hm, hl, hb⟩ => ?_⟩
 rcases back_get hS hE hm with ⟨g1, g2, g3, g4⟩ | ⟨i, m0, g1, g2, g3, rfl, g4⟩
 ·exact h2 (by rw [hE.F]; exact .inr ⟨j, m, g3, hl, by rw [← g4]; exact hb, g2⟩)
 ·exact h3 ⟨i, m0, g3, Blk.rn_live.1 hl, by rw [← g4]; exact hb⟩
theorem back_RP {v : Value} {a : AV} (r : RP D.w D.G v a) : RP (C.back S D).w (C.back S D).G v a := r.mono fun b hb => ⟨back_G hC hS hE hb, rfl⟩
theorem back_RL {v : Value} {a : AV} (r : RL D v a) : RL (C.back S D) v (a.rn1 (rho S C.H.length)) := by
 cases a with
 | own id off len =>
  obtain ⟨h1, h2, h3, h4, h5⟩ := r
  obtain ⟨g1, g2, g3⟩ := back_in hS hE h2
  refine ⟨h1, g3, fun k sh es he => ?_, fun k sh es he => ?_, fun sh es he => ?_⟩
  all_goals
   rw [g1, List.getElem?_eq_getElem h2] at he
   simp only [Option.map_some, Option.some.injEq] at he
  ·obtain ⟨es0, e1, e2, _⟩ := Blk.rn_row he
   obtain ⟨hn, hy⟩ := h3 k sh es0 (by rw [List.getElem?_eq_getElem h2, e1])
   refine ⟨fun hd => hn fun hh => hd (Blk.live_row e2.symm hh), fun hh => ?_⟩
   obtain ⟨cap, q1, q2, q3, q4⟩ := hy (Blk.live_row e2 hh)
   rw [g2]
   exact ⟨cap, q1, q2, by omega, q4⟩
  ·obtain ⟨es0, e1, e2, _⟩ := Blk.rn_row he
   have := h4 k sh es0 (by rw [List.getElem?_eq_getElem h2, e1])
   omega
  ·have e1 := Blk.rn_ro he
   obtain ⟨q1, q2⟩ := h5 sh es (by rw [List.getElem?_eq_getElem h2, e1])
   exact ⟨q1, back_RP hC hS hE q2⟩
 | ptr id i o =>
  obtain ⟨h1, h2, h3⟩ := r
  obtain ⟨g1, g2, g3⟩ := back_in hS hE h2
  refine ⟨h1, g3, fun k sh es he => ?_⟩
  rw [g1, List.getElem?_eq_getElem h2] at he
  simp only [Option.map_some, Option.some.injEq] at he
  obtain ⟨es0, e1, e2, _⟩ := Blk.rn_row he
  rw [g2]
  exact h3 k sh es0 (by rw [List.getElem?_eq_getElem h2, e1])
 | map id =>
  obtain ⟨h1, h2, h3⟩ := r
  obtain ⟨g1, g2, g3⟩ := back_in hS hE h2
  refine ⟨h1, g3, fun es he => ?_⟩
  rw [g1, List.getElem?_eq_getElem h2] at he
  simp only [Option.map_some, Option.some.injEq] at he
  rw [g2]
  exact h3 es (by rw [List.getElem?_eq_getElem h2, Blk.rn_map he])
 | undef => trivial
 | fn _ _ => exact r.elim
 | tup _ => exact r.elim
 | agg _ => exact r.elim
 | _ => exact back_RP hC hS hE r
theorem back_R1 {v : Value} {a : AV} (r : R1 D v a) : R1 (C.back S D) v (a.rnR (rho S C.H.length)) := by
 cases a with
 | fn f caps =>
  obtain ⟨cv, hv, hsz, hc⟩ := r
  exact ⟨cv, hv, by simpa using hsz, fun i hi => by
   simp only [List.getElem_map]
   exact back_RL hC hS hE (hc i (by simpa using hi))⟩
 | own a b c => exact back_RL hC hS hE (a := .own a b c) r
 | ptr a b c => exact back_RL hC hS hE (a := .ptr a b c) r
 | map a => exact back_RL hC hS hE (a := .map a) r
 | undef => trivial
 | tup _ => exact (show False from r).elim
 | agg _ => exact (show False from r).elim
 | _ => exact back_RP hC hS hE r
theorem back_RA {v : Value} {a : AV} (r : RA D v a) : RA (C.back S D) v (a.rnA (rho S C.H.length)) := by
 cases a with
 | agg cs =>
  obtain ⟨vs, hv, hsz, hc, ho⟩ := r
  exact ⟨vs, hv, by simpa using hsz, fun i hi => by
   simp only [List.getElem_map]
   exact back_R1 hC hS hE (hc i (by simpa using hi)), ho⟩
 | fn f caps => exact back_R1 hC hS hE (a := .fn f caps) r
 | own a b c => exact back_R1 hC hS hE (a := .own a b c) r
 | ptr a b c => exact back_R1 hC hS hE (a := .ptr a b c) r
 | map a => exact back_R1 hC hS hE (a := .map a) r
 | undef => trivial
 | tup _ => exact (show False from r).elim
 | _ => exact back_RP hC hS hE r
theorem back_RT {v : Value} {a : AV} (r : RT D v a) : RT (C.back S D) v (a.rnT (rho S C.H.length)) := by
 cases a with
 | tup cs =>
  obtain ⟨vs, hv, hsz, hc⟩ := r
  exact ⟨vs, hv, by simpa using hsz, fun i hi => by
   simp only [List.getElem_map]
   exact back_RA hC hS hE (hc i (by simpa using hi))⟩
 | agg cs => exact back_RA hC hS hE (a := .agg cs) r
 | fn f caps => exact back_RA hC hS hE (a := .fn f caps) r
 | own a b c => exact back_RA hC hS hE (a := .own a b c) r
 | ptr a b c => exact back_RA hC hS hE (a := .ptr a b c) r
 | map a => exact back_RA hC hS hE (a := .map a) r
 | undef => trivial
 | _ => exact back_RP hC hS hE r
theorem back_heap {j : Nat} {k : Blk} (hj : j ∉ S) (hk : C.H[j]? = some k) (hl : k.live) : D.w.heap[C.β j]? = C.w.heap[C.β j]? := by
 refine hE.keep _ (hC.lt hk hl) fun ⟨i, m, hm, hml, hb⟩ => ?_
 have hm : H0[i]? = some m := hm
 have hi : i < S.length := by rw [← hS.len]; exact (List.getElem?_eq_some_iff.1 hm).1
 obtain ⟨b, h1, h2, h3⟩ := hS.at hi
 rw [h1] at hm; cases hm
 have hb : C.β (rho S C.H.length i) = C.β j := hb
 rw [h3] at hb
 have := hC.inj _ _ _ _ h2 hk (Blk.rn_live.2 hml) hl hb
 exact hj (this ▸ List.getElem_mem hi)
theorem back_ext : Ext C (C.back S D) where
 F := rfl
 os := hE.os
 tape := hE.tape
 output := hE.output
 size := hE.size
 len := by
  simp only [Ctx.back, List.length_append, setAll_len]; omega
 beta := fun id hid => by show (if id < C.H.length then _ else _) = _; rw [if_pos hid]
 keep := fun b hb ho => hE.keep b hb fun h => ho (sub_owned hS h)
 fresh := fun j k hj hk hl => by
  rcases back_get hS hE hk with ⟨g1, _⟩ | ⟨i, m0, g1, g2, g3, rfl, g4⟩
  ·omega
  ·rw [g4]; exact back_fresh hC hS hE g3 (Blk.rn_live.1 hl)
 rows := fun j k sh es hj he => by
  rcases back_get hS hE he with ⟨g1, g2, g3, g4⟩ | ⟨i, m0, g1, g2, g3, g5, g4⟩
  ·refine ⟨es, g3, rfl, fun hl => ?_⟩
   obtain ⟨c, T, fr, hc, _⟩ := hC.row j k sh es g3 hl
   exact ⟨c, T, fr, c, T, fr, hc, by rw [← hc]; exact back_heap hC hS hE g2 g3 hl, rfl⟩
  ·have hi : i < S.length := by
    rcases Nat.lt_or_ge i S.length with h | h
    ·exact h
    ·exfalso
     unfold rho at g2; rw [List.getElem?_eq_none h] at g2; simp only at g2; omega
   obtain ⟨es0, e1, e2, _⟩ := Blk.rn_row g5.symm
   subst e1
   obtain ⟨es1, q1, q2, q3⟩ := hE.rows i k sh es0 (by show i < H0.length; rw [hS.len]; exact hi) g3
   obtain ⟨b, h1, h2, h3⟩ := hS.at hi
   have q1 : H0[i]? = some _ := q1
   rw [h1] at q1; cases q1
   obtain ⟨es2, f1, f2, _⟩ := Blk.rn_row' (ρ := rho S C.H.length) (k := k) (sh := sh) (es := es1)
   refine ⟨es2, by rw [g2, h3, h2, f1], by omega, fun hl => ?_⟩
   obtain ⟨c, T, fr, c', T', fr', hc, hc', hs⟩ := q3 (Blk.live_row e2 hl)
   have hb : (C.sub S H0).β i = C.β j := by show C.β (rho S C.H.length i) = _; rw [← g2]
   rw [hb] at hc hc'
   exact ⟨c, T, fr, c', T', fr', hc, hc', hs⟩
 maps := fun j es hj he => by
  rcases back_get hS hE he with ⟨g1, g2, g3, g4⟩ | ⟨i, m0, g1, g2, g3, g5, g4⟩
  ·exact ⟨es, g3⟩
  ·have hi : i < S.length := by
    rcases Nat.lt_or_ge i S.length with h | h
    ·exact h
    ·exfalso
     unfold rho at g2; rw [List.getElem?_eq_none h] at g2; simp only at g2; omega
   have e1 := Blk.rn_map g5.symm
   subst e1
   obtain ⟨es1, q1⟩ := hE.maps i es (by show i < H0.length; rw [hS.len]; exact hi) g3
   obtain ⟨b, h1, h2, h3⟩ := hS.at hi
   have q1 : H0[i]? = some _ := q1
   rw [h1] at q1; cases q1
   exact ⟨es1, by rw [g2, h3, h2]; rfl⟩
 ros := fun j sh es hj he => by
  rcases back_get hS hE he with ⟨g1, g2, g3, g4⟩ | ⟨i, m0, g1, g2, g3, g5, g4⟩
  ·exact .inl g3
  ·have hi : i < S.length := by
    rcases Nat.lt_or_ge i S.length with h | h
    ·exact h
    ·exfalso
     unfold rho at g2; rw [List.getElem?_eq_none h] at g2; simp only at g2; omega
   have e1 := Blk.rn_ro g5.symm
   subst e1
   obtain ⟨b, h1, h2, h3⟩ := hS.at hi
   rcases hE.ros i sh es (by show i < H0.length; rw [hS.len]; exact hi) g3 with q1 | ⟨k, es0, q1, q2, q3⟩
   ·have q1 : H0[i]? = some _ := q1
    rw [h1] at q1; cases q1
    exact .inl (by rw [g2, h3, h2]; rfl)
   ·have q1 : H0[i]? = some _ := q1
    rw [h1] at q1; cases q1
    obtain ⟨es2, f1, f2, _⟩ := Blk.rn_row' (ρ := rho S C.H.length) (k := k) (sh := sh) (es := es0)
    refine .inr ⟨k, es2, by rw [g2, h3, h2, f1], by omega, fun hl => ?_⟩
    have := q3 (Blk.live_row f2 hl)
    have hb : (C.sub S H0).β i = C.β j := by show C.β (rho S C.H.length i) = _; rw [← g2]
    rw [hb] at this
    exact this.mono fun b hb => ⟨back_G hC hS hE hb, rfl⟩
theorem back_rep (hD : HRep D) : HRep (C.back S D) := by
 have hX := back_ext hC hS hE
 refine ⟨fun i j k m hk hm hlk hlm hb => ?_, fun i k hk hl hf => ?_, fun b hf => Nat.lt_of_lt_of_le (hC.Flt b hf) hE.size, fun i k sh es he => ?_, fun i k sh es he hl => ?_, fun i es he => ?_⟩
 ·rcases back_get hS hE hk with ⟨g1, g2, g3, g4⟩ | ⟨i, m0, g1, rfl, g3, rfl, g4⟩ <;> rcases back_get hS hE hm with ⟨f1, f2, f3, f4⟩ | ⟨j, m1, f1, rfl, f3, rfl, f4⟩
  ·rw [g4, f4] at hb; exact hC.inj i j k m g3 f3 hlk hlm hb
  ·rw [g4, f4] at hb; exact absurd hb (back_apart hC hS hE g2 g3 hlk f3 (Blk.rn_live.1 hlm))
  ·rw [g4, f4] at hb; exact absurd hb.symm (back_apart hC hS hE f2 f3 hlm g3 (Blk.rn_live.1 hlk))
  ·rw [g4, f4] at hb
   rw [hD.inj i j m0 m1 g3 f3 (Blk.rn_live.1 hlk) (Blk.rn_live.1 hlm) hb]
 ·rcases back_get hS hE hk with ⟨g1, g2, g3, g4⟩ | ⟨i, m0, g1, rfl, g3, rfl, g4⟩
  ·rw [g4] at hf; exact hC.notF i k g3 hl hf
  ·rw [g4] at hf
   exact hD.notF i m0 g3 (Blk.rn_live.1 hl) (by rw [hE.F]; exact .inl hf)
 ·rcases back_get hS hE he with ⟨g1, g2, g3, g4⟩ | ⟨i, m0, g1, rfl, g3, g5, g4⟩
  ·exact hC.sz i k sh es g3
  ·obtain ⟨es0, rfl, _⟩ := Blk.rn_row g5.symm
   exact hD.sz i k sh es0 g3
 ·rcases back_get hS hE he with ⟨g1, g2, g3, g4⟩ | ⟨i, m0, g1, rfl, g3, g5, g4⟩
  ·rw [g4]
   have hr : RowAt C (C.β i) k sh es := hC.row i k sh es g3 hl
   exact hr.ext hX (back_heap hC hS hE g2 g3 hl)
  ·obtain ⟨es0, rfl, e2, e3⟩ := Blk.rn_row g5.symm
   rw [g4]
   obtain ⟨c, T, fr, hc, h1, h2, h3, h4⟩ := hD.row i k sh es0 g3 (Blk.live_row e2 hl)
   refine ⟨c, T, fr, hc, h1, by rw [e2]; exact h2, h3, fun j hj => ?_⟩
   obtain ⟨v, hv, hp, hs, hcell⟩ := h4 j (by rw [← e2]; exact hj)
   refine ⟨v, ?_, fun hk => ?_, hs, hcell⟩
   ·rcases e3 with ⟨rfl, rfl⟩ | ⟨hk, rfl⟩
    ·simp only [List.getElem_map]; exact back_RA hC hS hE hv
    ·exact (back_RP hC hS hE (hp hk)).RA
   ·rcases e3 with ⟨rfl, rfl⟩ | ⟨hk, rfl⟩
    ·exact absurd rfl hk
    ·exact back_RP hC hS hE (hp hk)
 ·rcases back_get hS hE he with ⟨g1, g2, g3, g4⟩ | ⟨i, m0, g1, rfl, g3, g5, g4⟩
  ·rw [g4]
   have hr : MapAt C (C.β i) es := hC.map i es g3
   exact hr.ext hX (back_heap hC hS hE g2 g3 trivial)
  ·have := Blk.rn_map g5.symm
   subst this
   rw [g4]
   obtain ⟨me, cl, hm, hs, h⟩ := hD.map i es g3
   refine ⟨me, cl, hm, hs, fun j hj => ?_⟩
   obtain ⟨m, h1, h2, h3⟩ := h j hj
   exact ⟨m, h1, back_RP hC hS hE h2, back_RP hC hS hE h3⟩
end
/-- A contract over some blocks, among more. -/
theorem ACalls.sub {P : Program} {f : FuncId} {args : List AV} {H0 H0' : List Blk} {r : AV} (h : ACalls P f args H0 r H0') (S : List Nat) (H : List Blk) (hS : nodupB S = true) (hH : S.map (fun j => H[j]?) = H0.map (fun b => some (b.rn (rho S H.length)))) :
  ACalls P f (args.map (AV.rnA (rho S H.length))) H (r.rnT (rho S H.length)) (setAll H S ((H0'.take S.length).map (Blk.rn (rho S H.length))) ++ (H0'.drop S.length).map (Blk.rn (rho S H.length))) := by
 refine ⟨h.1, fun C hCH hC cargs hsz hargs => ?_⟩
 subst hCH
 have hlen : H0.length = S.length := by have := congrArg List.length hH; simpa using this.symm
 have hSel : Sel C S H0 := ⟨nodupB_spec S hS, hlen, fun i b hb => by
  have hi : i < S.length := by rw [← hlen]; exact (List.getElem?_eq_some_iff.1 hb).1
  refine ⟨S[i], List.getElem?_eq_getElem hi, ?_⟩
  have := congrArg (fun l => l[i]?) hH
  simp only [List.getElem?_map, hb, List.getElem?_eq_getElem hi, Option.map_some, Option.some.injEq] at this
  exact this⟩
 refine (h.2 (C.sub S H0) rfl (sub_rep hC hSel) cargs (by simpa using hsz) fun i hi => ?_).mono fun e w' h => ?_
 ·have := hargs i (by simpa using hi)
  exact sub_RA hSel (by simpa using this)
 ·obtain ⟨v, D, he, hw, rfl, hE, hD, hv⟩ := h
  exact ⟨v, C.back S D, he, hw, rfl, back_ext hC hSel hE, back_rep hC hSel hE hD, back_RT hC hSel hE hv⟩
theorem NCall.sub {P : Program} {f : FuncId} {args args0 : List AV} {H H0 H0' H'' : List Blk} {r r' : AV} {next : AV → List Blk → Prop} (S : List Nat) (h : ACalls P f args0 H0 r H0') (hS : nodupB S = true)
  (hH : S.map (fun j => H[j]?) = H0.map (fun b => some (b.rn (rho S H.length)))) (ha : args = args0.map (AV.rnA (rho S H.length))) (er : r.rnT (rho S H.length) = r')
  (eH : setAll H S ((H0'.take S.length).map (Blk.rn (rho S H.length))) ++ (H0'.drop S.length).map (Blk.rn (rho S H.length)) = H'') (hn : next r' H'') : NCall P f args H next := by
 subst ha er eH
 exact ⟨_, _, h.sub S H hS hH, hn⟩
def roAll : List Blk → List Nat → List Blk
 | H, [] => H
 | H, i :: r => match H[i]? with
  | some (.row kk sh es) => match kk with
   | .box => roAll H r
   | _ => roAll (H.set i (.ro sh es)) r
  | _ => roAll H r
theorem ACalls.roAll {P : Program} {f : FuncId} {r : AV} {H' : List Blk} {args : List AV} : ∀ (ids : List Nat) {H : List Blk}, ACalls P f args (roAll H ids) r H' → ACalls P f args H r H'
 | [], H, h => h
 | i :: l, H, h => by
  unfold Bv.roAll at h
  split at h
  ·rename_i kk sh es hid
   split at h
   ·exact ACalls.roAll l h
   ·rename_i hk
    have h := ACalls.roAll l h
    refine ⟨h.1, fun C hH hC cargs hsz hargs => ?_⟩
    subst hH
    have hE1 := ro_ext hC hid hk
    refine (h.2 { C with H := C.H.set i (.ro sh es) } rfl (ro_hrep hC hid hk) cargs hsz fun i hi => hE1.RA (hargs i hi)).mono fun e w' h => ?_
    obtain ⟨v, D, he, hw, hDH, hE, hD, hv⟩ := h
    exact ⟨v, D, he, hw, hDH, hE1.trans hE, hD, hv⟩
  ·exact ACalls.roAll l h
def thawA (H : List Blk) : AV → AV
 | .agg cs => .agg (cs.map (thaw H))
 | a => thaw H a
theorem RA.thawA {C : Ctx} {v : Value} {a : AV} (h : RA C v a) : RA C v (thawA C.H a) := by
 cases a with
 | agg cs =>
  obtain ⟨vs, hv, hsz, hc, ho⟩ := h
  exact ⟨vs, hv, by simpa using hsz, fun i hi => by
   simp only [List.getElem_map]
   exact (hc i (by simpa using hi)).thaw, ho⟩
 | _ => exact h.thaw
theorem ACalls.thawed {P : Program} {f : FuncId} {r : AV} {H H' : List Blk} {args : List AV} (h : ACalls P f (args.map (thawA H)) H r H') : ACalls P f args H r H' := by
 refine ⟨h.1, fun C hH hC cargs hsz hargs => ?_⟩
 subst hH
 exact h.2 C rfl hC cargs (by simpa using hsz) fun i hi => by
  simp only [List.getElem_map]
  exact (hargs i (by simpa using hi)).thawA
/-- Rows are let be, and read as lists from there on. -/
theorem NCall.ro {P : Program} {f : FuncId} {args args' : List AV} {H H' : List Blk} {next : AV → List Blk → Prop} (ids : List Nat) (eH : Bv.roAll H ids = H') (ea : args.map (thawA H') = args') (h : NCall P f args' H' next) : NCall P f args H next := by
 subst eH ea
 obtain ⟨r, H'', h1, h2⟩ := h
 exact ⟨r, H'', (ACalls.thawed h1).roAll ids, h2⟩
end Go.Bv
