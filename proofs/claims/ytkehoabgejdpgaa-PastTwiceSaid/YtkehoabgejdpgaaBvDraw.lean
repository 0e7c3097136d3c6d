/- Part of the lift: an abstract walk of the program's code, proved sound, and what it shows of this program. -/
import Derived.Test.YtkehoabgejdpgaaBvLend2
namespace Go.Bv
open Go

-- regions that draw their order
def deps (o : Oper) : List Nat := o.after.toList.filterMap fun e => if Region.binds .any e then some e.on else none
def memN : List Nat → Nat → Bool
  | [], _ => false
  | x :: r, n => match Nat.beq x n with
    | true => true
    | false => memN r n
theorem memN_iff : ∀ (l : List Nat) (n : Nat), memN l n = true ↔ n ∈ l
  | [], n => by simp [memN]
  | x :: r, n => by
    simp only [memN]
    cases hb : Nat.beq x n with
    | true => have := Nat.eq_of_beq_eq_true hb; simp [this]
    | false =>
      have : x ≠ n := fun e => by subst e; simp at hb
      simp [memN_iff r n, Ne.symm this]
def addAll : List Nat → List Nat → List Nat
  | acc, [] => acc
  | acc, x :: r => match memN acc x with
    | true => addAll acc r
    | false => addAll (x :: acc) r
/-- What lies ahead of each operation. -/
def ahead : List (List Nat) → List Oper → List (List Nat)
  | acc, [] => acc
  | acc, o :: r => ahead (acc ++ [(deps o).foldl (fun l d => addAll l (d :: acc.getD d [])) []]) r

def opTmps (op : Op) : List Tmp := op.operands.toList.filterMap fun | .tmp t => some t | _ => none
def gTmps (ops : List Oper) (o : Oper) : List Tmp := match o.guard with
  | some (j, _) => match ops[j]? with
    | some o' => match o'.dst with
      | some d => [d]
      | none => []
    | none => []
  | none => []
/-- Do they meet at a slot? -/
def meets (ops : List Oper) (a b : Oper) : Bool :=
  (match a.dst with
   | some d => memN (opTmps b.op) d || memN (gTmps ops b) d || memN b.dst.toList d
   | none => false) ||
  (match b.dst with
   | some d => memN (opTmps a.op) d || memN (gTmps ops a) d
   | none => false)

def allLt : Nat → (Nat → Bool) → Bool
  | 0, _ => true
  | n + 1, p => p n && allLt n p
theorem allLt_spec {p : Nat → Bool} : ∀ {n : Nat}, allLt n p = true → ∀ i, i < n → p i = true
  | n + 1, h, i, hi => by
    simp only [allLt, Bool.and_eq_true] at h
    rcases Nat.lt_or_ge i n with h' | h'
    · exact allLt_spec h.2 i h'
    · have : i = n := by omega
      subst this; exact h.1

def noSel (o : Op) : Bool := match o with
  | .select _ _ => false
  | _ => true

/-- The region's own order lets slots be. -/
def drOk (ops : List Oper) (ah : List (List Nat)) : Bool :=
  allLt ops.length fun j => match ops[j]? with
    | some o => (deps o).all (Nat.blt · j) && (ah.getD j []).all (fun x => memN (deps o) x || (deps o).any fun d => memN (ah.getD d []) x) &&
        allLt j fun i => match ops[i]? with
          | some p => !meets ops p o || memN (ah.getD j []) i
          | none => true
    | none => true
/-- What an operation is to the owned blocks: nothing; it changes some (none: any); it reads some that were there. -/
inductive EvK where
  | no
  | eff (W : Option (List Nat))
  | rd (R : List Nat)
def EvK.isEff : EvK → Bool
  | .eff _ => true
  | _ => false
def touch : Option (List Nat) → List Nat → Bool
  | none, _ => true
  | some W, R => R.any (memN W)
/-- May the two come in any order that the region has? (x stands behind y in the text.) -/
def evOk (ah : List (List Nat)) (x y : Nat × EvK) : Bool :=
  match x.2, y.2 with
  | .eff _, .eff _ => memN (ah.getD x.1 []) y.1
  | .eff W, .rd R => !touch W R || memN (ah.getD x.1 []) y.1
  | .rd R, .eff W => !touch W R
  | _, _ => true
def drE (ah : List (List Nat)) : List (Nat × EvK) → Bool
  | [] => true
  | x :: r => r.all (evOk ah x) && drE ah r
def addEv (k : EvK) (i : Nat) (E : List (Nat × EvK)) : List (Nat × EvK) := match k with
  | .no => E
  | k => (i, k) :: E
/-- All blocks but some are as they were. -/
def agree (W : List Nat) : Nat → List Blk → List Blk → Prop
  | _, [], _ => True
  | i, b :: r, c :: q => (match memN W i with | true => True | false => c = b) ∧ agree W (i + 1) r q
  | _, _ :: _, [] => False
/-- Blocks of which some are known. -/
def holes (R : List Nat) (f : Nat → Blk) (T : List Blk) : Nat → List Blk → List Blk
  | _, [] => T
  | i, b :: r => (bif memN R i then b else f i) :: holes R f T (i + 1) r

theorem agree_get {W : List Nat} : ∀ {i : Nat} {H H' : List Blk}, agree W i H H' → H.length ≤ H'.length ∧ ∀ id, id < H.length → i + id ∉ W → H'[id]? = H[id]?
  | _, [], _, _ => ⟨Nat.zero_le _, fun id h => by simp at h⟩
  | i, b :: r, c :: q, ⟨h1, h2⟩ => by
    obtain ⟨h3, h4⟩ := agree_get h2
    refine ⟨by simp only [List.length_cons]; omega, fun id hid hw => ?_⟩
    cases id with
    | zero =>
      have : memN W i = false := by
        cases hm : memN W i with
        | false => rfl
        | true => exact absurd ((memN_iff _ _).1 hm) hw
      rw [this] at h1
      simp only at h1
      simp [h1]
    | succ id =>
      have := h4 id (by simpa using hid) (by rw [show i + 1 + id = i + (id + 1) by omega]; exact hw)
      simpa using this
  | _, _ :: _, [], h => h.elim

theorem holes_eq {R : List Nat} : ∀ (i : Nat) (H H' : List Blk), H.length ≤ H'.length → (∀ id, id < H.length → i + id ∈ R → H'[id]? = H[id]?) →
    ∃ f T, H' = holes R f T i H := by
  intro i H H' hl h
  refine ⟨fun j => (H'[j - i]?).getD .dead, H'.drop H.length, ?_⟩
  have key : ∀ (H : List Blk) (k : Nat), H.length + k ≤ H'.length → (∀ id, id < H.length → i + k + id ∈ R → H'[k + id]? = H[id]?) → H'.drop k = holes R (fun j => (H'[j - i]?).getD .dead) (H'.drop (k + H.length)) (i + k) H := by
    intro H
    induction H with
    | nil => intro k _ _; rfl
    | cons b r ih =>
      intro k hk hg
      simp only [List.length_cons] at hk hg ⊢
      have hlt : k < H'.length := by omega
      rw [List.drop_eq_getElem_cons hlt, holes]
      congr 1
      · cases hm : memN R (i + k) with
        | true =>
          have := hg 0 (by omega) (by simpa using (memN_iff _ _).1 hm)
          simp only [Nat.add_zero, List.getElem?_cons_zero] at this
          rw [List.getElem?_eq_getElem hlt] at this
          simpa using this
        | false =>
          simp [List.getElem?_eq_getElem hlt]
      · have := ih (k + 1) (by omega) (fun id hid hr => by
          have := hg (id + 1) (by omega) (by rw [show i + k + (id + 1) = i + (k + 1) + id by omega]; exact hr)
          rw [show k + 1 + id = k + (id + 1) by omega, this]; simp)
        rw [this, show k + 1 + r.length = k + (r.length + 1) by omega, show i + (k + 1) = i + k + 1 by omega]
  have := key H 0 (by omega) (fun id hid hr => by simpa using h id hid (by simpa using hr))
  simpa using this

def opFr (fr : Fr) (op : Op) : Fr := (opTmps op).map fun t => (t, fr.get t)
def lowFr (fr : Fr) : Fr := fr.map fun p => (p.1, p.2.low)

/-- An operation in a region whose order is open: it hangs on nothing owned, or it has a place in the order. -/
inductive NDr {P : Program} (Γ : Tab P) (fr : Fr) (op : Op) (H0 H : List Blk) (next : EvK → AV → List Blk → Prop) : Prop
  | pure (r : AV) (h : aop Γ (lowFr (opFr fr op)) op [] (fun a b => a = r ∧ b = [])) (hn : next .no r H)
  | any (r : AV) (h : ∀ H', aop Γ (opFr fr op) op H' (fun a b => a = r ∧ b = H')) (hn : next .no r H)
  | eff (r : AV) (H' : List Blk) (h : aop Γ (opFr fr op) op H (fun a b => a = r ∧ b = H')) (hn : next (.eff none) r H')
  | efw (W : List Nat) (r : AV) (H' : List Blk) (h : aop Γ (opFr fr op) op H (fun a b => a = r ∧ b = H')) (ha : agree W 0 H H') (hn : next (.eff (some W)) r H')
  | rd (R : List Nat) (r : AV) (h : ∀ f T, aop Γ (opFr fr op) op (holes R f T 0 H0) (fun a b => a = r ∧ b = holes R f T 0 H0)) (hn : next (.rd R) r H)

noncomputable def drun {P : Program} (Γ : Tab P) (n : Nat) (ops : List Oper) (H0 : List Blk) (l : List Oper) (i : Nat) (E : List (Nat × EvK)) (fr : Fr) (H : List Blk) (k : List (Nat × EvK) → Fr → List Blk → Prop) : Prop :=
  List.rec (motive := fun _ => Nat → List (Nat × EvK) → Fr → List Blk → (List (Nat × EvK) → Fr → List Blk → Prop) → Prop) (fun _ E fr H k => k E fr H)
    (fun o _ ih i E fr H k => match dstOk n o.dst with
      | true => aWanted ops fr o.guard (NDr Γ fr o.op H0 H fun e r H' => nrm o.op r H' fun r H' => ih (i + 1) (addEv e i E) (fr.put o.dst r) H' k) (ih (i + 1) E (fr.put o.dst (.tup [])) H k)
      | false => False) l i E fr H k
theorem drun_cons {P : Program} (Γ : Tab P) (n : Nat) (ops : List Oper) (H0 : List Blk) (o : Oper) (rest : List Oper) (i : Nat) (E : List (Nat × EvK)) (fr : Fr) (H : List Blk) (k : List (Nat × EvK) → Fr → List Blk → Prop) : drun Γ n ops H0 (o :: rest) i E fr H k = match dstOk n o.dst with
    | true => aWanted ops fr o.guard (NDr Γ fr o.op H0 H fun e r H' => nrm o.op r H' fun r H' => drun Γ n ops H0 rest (i + 1) (addEv e i E) (fr.put o.dst r) H' k) (drun Γ n ops H0 rest (i + 1) E (fr.put o.dst (.tup [])) H k)
    | false => False := rfl

noncomputable def drA {P : Program} (Γ : Tab P) (n : Nat) (ops : List Oper) (fr : Fr) (H : List Blk) (K : Fr → List Blk → Prop) : Prop :=
  NP (drOk ops (ahead [] ops) = true) (drun Γ n ops H ops 0 [] fr H fun E fr' H' => NP (drE (ahead [] ops) E = true) (K fr' H'))

theorem aWanted_det {ops : List Oper} {fr : Fr} {g : Option (Nat × Bool)} {T E : Prop} (h : aWanted ops fr g T E) : (aWanted ops fr g True False ∧ T) ∨ (aWanted ops fr g False True ∧ E) := by
  have nb : ∀ {b : Bool} {T E : Prop}, NB b T E → (NB b True False ∧ T) ∨ (NB b False True ∧ E) := by
    intro b T E h
    cases b
    · exact .inr ⟨trivial, h⟩
    · exact .inl ⟨trivial, h⟩
  match g with
  | none => exact .inl ⟨trivial, h⟩
  | some (j, want) =>
    simp only [aWanted] at h ⊢
    cases ho : ops[j]? with
    | none => simp only [ho] at h
    | some o =>
      simp only [ho] at h ⊢
      cases hd : o.dst with
      | none => simp only [hd] at h
      | some d =>
        simp only [hd] at h ⊢
        cases hv : fr.get d with
        | bool b =>
          simp only [hv] at h ⊢
          cases want with
          | true => exact nb h
          | false => exact (nb h).elim .inr .inl
        | tup vs =>
          simp only [hv] at h ⊢
          cases vs with
          | nil => exact .inr ⟨trivial, h⟩
          | cons _ _ => exact h.elim
        | _ => simp only [hv] at h

theorem aWanted_congr {ops : List Oper} {fr fr' : Fr} {o : Oper} {T E : Prop} (hg : ∀ d ∈ gTmps ops o, fr'.get d = fr.get d) (h : aWanted ops fr o.guard T E) : aWanted ops fr' o.guard T E := by
  cases hq : o.guard with
  | none => rw [hq] at h; exact h
  | some g =>
    obtain ⟨j, want⟩ := g
    rw [hq] at h
    simp only [gTmps, hq] at hg
    simp only [aWanted] at h ⊢
    cases ho : ops[j]? with
    | none => simp only [ho] at h
    | some o =>
      simp only [ho] at h hg ⊢
      cases hd : o.dst with
      | none => simp only [hd] at h
      | some d =>
        simp only [hd] at h hg ⊢
        rw [hg d (by simp)]; exact h

/-- What a step in the text's order did. -/
def DFact {P : Program} (Γ : Tab P) (ops : List Oper) (H0 : List Blk) (fr : Fr) (o : Oper) (H : List Blk) (e : EvK) (V : AV) (H' : List Blk) : Prop :=
  (aWanted ops fr o.guard True False ∧
    ((e = .no ∧ H' = H ∧ (aop Γ (lowFr (opFr fr o.op)) o.op [] (fun a b => a = V ∧ b = []) ∨ ∀ H', aop Γ (opFr fr o.op) o.op H' (fun a b => a = V ∧ b = H'))) ∨
     (e.isEff = true ∧ (∀ W, e = .eff (some W) → agree W 0 H H') ∧ aop Γ (opFr fr o.op) o.op H (fun a b => a = V ∧ b = H')) ∨
     (∃ R, e = .rd R ∧ H' = H ∧ ∀ f T, aop Γ (opFr fr o.op) o.op (holes R f T 0 H0) (fun a b => a = V ∧ b = holes R f T 0 H0)))) ∨
  (aWanted ops fr o.guard False True ∧ V = .tup [] ∧ e = .no ∧ H' = H)

theorem drun_ex {P : Program} (Γ : Tab P) (n : Nat) (ops : List Oper) (H0 : List Blk) : ∀ (rest : List Oper) (i : Nat) (E : List (Nat × EvK)) (fr : Fr) (H : List Blk) (k : List (Nat × EvK) → Fr → List Blk → Prop), drun Γ n ops H0 rest i E fr H k →
    ∃ (V : Nat → AV) (e : Nat → EvK) (frs : Nat → Fr) (Hs : Nat → List Blk), frs 0 = fr ∧ Hs 0 = H ∧
      (∀ (j : Nat) (o : Oper), rest[j]? = some o → dstOk n o.dst = true ∧ frs (j + 1) = (frs j).put o.dst (V j) ∧ DFact Γ ops H0 (frs j) o (Hs j) (e j) (V j) (Hs (j + 1))) ∧
      ∃ pre, k (pre ++ E) (frs rest.length) (Hs rest.length) ∧ (∀ ah, drE ah (pre ++ E) = true → ∀ j, j < rest.length → e j ≠ .no → (∀ x ∈ E, evOk ah (i + j, e j) x = true) ∧ ∀ q, q < j → e q ≠ .no → evOk ah (i + j, e j) (i + q, e q) = true)
  | [], i, E, fr, H, k, h => ⟨fun _ => .undef, fun _ => .no, fun _ => fr, fun _ => H, rfl, rfl, fun j o hj => by simp at hj, [], h, fun _ _ j hj => by simp at hj⟩
  | o :: rest, i, E, fr, H, k, h => by
    simp only [drun_cons] at h
    split at h
    · rename_i hd
      have key : ∀ (b : EvK) (r : AV) (H' : List Blk), DFact Γ ops H0 fr o H b r H' → drun Γ n ops H0 rest (i + 1) (addEv b i E) (fr.put o.dst r) H' k →
          ∃ (V : Nat → AV) (e : Nat → EvK) (frs : Nat → Fr) (Hs : Nat → List Blk), frs 0 = fr ∧ Hs 0 = H ∧
            (∀ (j : Nat) (o' : Oper), (o :: rest)[j]? = some o' → dstOk n o'.dst = true ∧ frs (j + 1) = (frs j).put o'.dst (V j) ∧ DFact Γ ops H0 (frs j) o' (Hs j) (e j) (V j) (Hs (j + 1))) ∧
            ∃ pre, k (pre ++ E) (frs (o :: rest).length) (Hs (o :: rest).length) ∧ (∀ ah, drE ah (pre ++ E) = true → ∀ j, j < (o :: rest).length → e j ≠ .no → (∀ x ∈ E, evOk ah (i + j, e j) x = true) ∧ ∀ q, q < j → e q ≠ .no → evOk ah (i + j, e j) (i + q, e q) = true) := by
        intro b r H' hf hr
        obtain ⟨V, e, frs, Hs, h1, h2, h3, pre, h4, h7⟩ := drun_ex Γ n ops H0 rest (i + 1) _ _ _ k hr
        have hadd : ∃ l, addEv b i E = l ++ E ∧ (b ≠ .no → (i, b) ∈ l) ∧ (b ≠ .no → l = [(i, b)]) := by
          cases b with
          | no => exact ⟨[], rfl, fun h => absurd rfl h, fun h => absurd rfl h⟩
          | eff W => exact ⟨[(i, .eff W)], rfl, fun _ => by simp, fun _ => rfl⟩
          | rd R => exact ⟨[(i, .rd R)], rfl, fun _ => by simp, fun _ => rfl⟩
        obtain ⟨l, hl, hin, hone⟩ := hadd
        rw [hl] at h4 h7
        refine ⟨fun | 0 => r | j + 1 => V j, fun | 0 => b | j + 1 => e j, fun | 0 => fr | j + 1 => frs j, fun | 0 => H | j + 1 => Hs j, rfl, rfl, ?_, pre ++ l, by rw [List.append_assoc]; exact h4, ?_⟩
        · intro j q hq
          cases j with
          | zero =>
            simp at hq; subst hq
            refine ⟨hd, h1, ?_⟩
            show DFact Γ ops H0 fr o H b r (Hs 0)
            rw [h2]; exact hf
          | succ j => exact h3 j q (by simpa using hq)
        · intro ah hah j hj hb
          rw [List.append_assoc] at hah
          cases j with
          | zero =>
            refine ⟨?_, fun q hq => by omega⟩
            dsimp only at hb
            rw [hone hb] at hah
            have : ∀ (pre : List (Nat × EvK)), drE ah (pre ++ ([(i, b)] ++ E)) = true → ∀ x ∈ E, evOk ah (i, b) x = true := by
              intro pre hE
              induction pre with
              | nil =>
                simp only [List.nil_append, List.cons_append, drE, Bool.and_eq_true, List.all_eq_true] at hE
                exact fun x hx => hE.1 x hx
              | cons p pre ih =>
                simp only [List.cons_append, drE, Bool.and_eq_true] at hE
                exact ih hE.2
            exact this pre hah
          | succ j =>
            obtain ⟨g1, g2⟩ := h7 ah hah j (by simpa using hj) hb
            rw [show i + 1 + j = i + (j + 1) by omega] at g1 g2
            refine ⟨fun x hx => g1 x (by simp [hx]), fun q hq hb' => ?_⟩
            cases q with
            | zero => exact g1 (i, b) (by simp [hin hb'])
            | succ q =>
              have := g2 q (by omega) hb'
              rwa [show i + 1 + q = i + (q + 1) by omega] at this
      rcases aWanted_det h with ⟨hw, h⟩ | ⟨hw, h⟩
      · rcases h with ⟨r, h, hn⟩ | ⟨r, h, hn⟩ | ⟨r, H', h, hn⟩ | ⟨W, r, H', h, ha, hn⟩ | ⟨R, r, h, hn⟩
        · exact key .no r H (.inl ⟨hw, .inl ⟨rfl, rfl, .inl h⟩⟩) (by rwa [nrm_eq] at hn)
        · exact key .no r H (.inl ⟨hw, .inl ⟨rfl, rfl, .inr h⟩⟩) (by rwa [nrm_eq] at hn)
        · exact key (.eff none) r H' (.inl ⟨hw, .inr (.inl ⟨rfl, (fun W hW => by cases hW), h⟩)⟩) (by rwa [nrm_eq] at hn)
        · exact key (.eff (some W)) r H' (.inl ⟨hw, .inr (.inl ⟨rfl, (fun W' hW => by cases hW; exact ha), h⟩)⟩) (by rwa [nrm_eq] at hn)
        · exact key (.rd R) r H (.inl ⟨hw, .inr (.inr ⟨R, rfl, rfl, h⟩)⟩) (by rwa [nrm_eq] at hn)
      · exact key .no (.tup []) H (.inr ⟨hw, rfl, rfl, rfl⟩) h
    · exact h.elim

theorem Fr.get_put (fr : Fr) (d : Option Tmp) (v : AV) (t : Nat) : (fr.put d v).get t = if d = some t then v else fr.get t := by
  cases d with
  | none => simp [Fr.put]
  | some d =>
    simp only [Fr.put, Fr.get]
    cases hb : Nat.beq d t with
    | true => have := Nat.eq_of_beq_eq_true hb; simp [this]
    | false =>
      have : d ≠ t := fun e => by subst e; simp at hb
      simp [this]

theorem opFr_get (fr : Fr) (op : Op) (t : Nat) : (t ∈ opTmps op ∧ (opFr fr op).get t = fr.get t) ∨ (opFr fr op).get t = .undef := by
  unfold opFr
  induction opTmps op with
  | nil => exact .inr rfl
  | cons x r ih =>
    simp only [List.map_cons, Fr.get]
    cases hb : Nat.beq x t with
    | true =>
      have := Nat.eq_of_beq_eq_true hb
      subst this
      exact .inl ⟨by simp, rfl⟩
    | false => exact ih.imp (fun h => ⟨by simp [h.1], h.2⟩) id
theorem pick_get' (fr : Fr) (l : List Nat) (t : Nat) : (t ∈ l ∧ Fr.get (l.map fun t => (t, fr.get t)) t = fr.get t) ∨ Fr.get (l.map fun t => (t, fr.get t)) t = .undef := by
  induction l with
  | nil => exact .inr rfl
  | cons x r ih =>
    simp only [List.map_cons, Fr.get]
    cases hb : Nat.beq x t with
    | true =>
      have := Nat.eq_of_beq_eq_true hb
      subst this
      exact .inl ⟨by simp, rfl⟩
    | false => exact ih.imp (fun h => ⟨by simp [h.1], h.2⟩) (fun h => h)
theorem pick_get (t : Nat) (l : List Nat) (h : t ∈ l) (fr : Fr) : Fr.get (l.map fun t => (t, fr.get t)) t = fr.get t := by
  induction l with
  | nil => cases h
  | cons x r ih =>
    simp only [List.map_cons, Fr.get]
    cases hb : Nat.beq x t with
    | true =>
      have := Nat.eq_of_beq_eq_true hb
      subst this
      rfl
    | false =>
      have : x ≠ t := fun e => by subst e; simp at hb
      exact ih (by simpa [Ne.symm this] using h)
theorem lowFr_get (fr : Fr) (t : Nat) : (lowFr fr).get t = (fr.get t).low := by
  unfold lowFr
  induction fr with
  | nil => rfl
  | cons x r ih =>
    obtain ⟨k, v⟩ := x
    simp only [List.map_cons, Fr.get]
    cases Nat.beq k t with
    | true => rfl
    | false => exact ih

theorem sh1_eq {C : Ctx} {n : Nat} {v : Value} {a : AV} (h : C.H = []) (r : RL C v a) : a.sh1 n = a := by
  cases a <;> first | rfl | (obtain ⟨_, h2, _⟩ := r; rw [h] at h2; simp at h2)
theorem shR_eq {C : Ctx} {n : Nat} {v : Value} {a : AV} (h : C.H = []) (r : R1 C v a) : a.shR n = a := by
  cases a with
  | fn f caps =>
    obtain ⟨cv, hv, hsz, hc⟩ := r
    simp only [AV.shR, AV.fn.injEq, true_and]
    apply List.ext_getElem (by simp)
    intro i h1 h2
    simp only [List.getElem_map]
    exact sh1_eq h (hc i h2)
  | agg cs => rfl
  | tup vs => rfl
  | own _ _ _ => exact sh1_eq (C := C) (v := v) (a := .own _ _ _) h r
  | ptr _ _ _ => exact sh1_eq (C := C) (v := v) (a := .ptr _ _ _) h r
  | map _ => exact sh1_eq (C := C) (v := v) (a := .map _) h r
  | _ => rfl
theorem shA_eq {C : Ctx} {n : Nat} {v : Value} {a : AV} (h : C.H = []) (r : RA C v a) : a.shA n = a := by
  cases a with
  | agg cs =>
    obtain ⟨cv, hv, hsz, hc, _⟩ := r
    simp only [AV.shA, AV.agg.injEq]
    apply List.ext_getElem (by simp)
    intro i h1 h2
    simp only [List.getElem_map]
    exact shR_eq h (hc i h2)
  | tup vs => rfl
  | own _ _ _ => exact shR_eq (C := C) (v := v) (a := .own _ _ _) h r
  | ptr _ _ _ => exact shR_eq (C := C) (v := v) (a := .ptr _ _ _) h r
  | map _ => exact shR_eq (C := C) (v := v) (a := .map _) h r
  | fn _ _ => exact shR_eq (C := C) (v := v) (a := .fn _ _) h r
  | _ => rfl
theorem shT_eq {C : Ctx} {n : Nat} {v : Value} {a : AV} (h : C.H = []) (r : RT C v a) : a.shT n = a := by
  cases a with
  | tup cs =>
    obtain ⟨cv, hv, hsz, hc⟩ := r
    simp only [AV.shT, AV.tup.injEq]
    apply List.ext_getElem (by simp)
    intro i h1 h2
    simp only [List.getElem_map]
    exact shA_eq h (hc i h2)
  | agg _ => exact shA_eq (C := C) (v := v) (a := .agg _) h r
  | own _ _ _ => exact shA_eq (C := C) (v := v) (a := .own _ _ _) h r
  | ptr _ _ _ => exact shA_eq (C := C) (v := v) (a := .ptr _ _ _) h r
  | map _ => exact shA_eq (C := C) (v := v) (a := .map _) h r
  | fn _ _ => exact shA_eq (C := C) (v := v) (a := .fn _ _) h r
  | _ => rfl

section
variable {P : Program} (Γ : Tab P) {n : Nat} {ops : Array Oper}

/-- How many are not listed. -/
def left (listed : Array Bool) : Nat → Nat
  | 0 => 0
  | k + 1 => (if listed.getD k true then 0 else 1) + left listed k
theorem left_set {listed : Array Bool} {i : Nat} (hi : listed.getD i true = false) : ∀ k, i < k → left (listed.setIfInBounds i true) k + 1 = left listed k
  | k + 1, hk => by
    have hlt : i < listed.size := by
      rcases Nat.lt_or_ge i listed.size with h | h
      · exact h
      · simp [Array.getElem?_eq_none h] at hi
    have out : ∀ k, k ≤ i → left (listed.setIfInBounds i true) k = left listed k := by
      intro k
      induction k with
      | zero => intro _; rfl
      | succ k ih =>
        intro h
        simp only [left]
        rw [getD_set_ne true (by omega), ih (by omega)]
    simp only [left]
    rcases Nat.lt_or_ge i k with h | h
    · rw [getD_set_ne true (by omega), ← left_set hi k h]; omega
    · have : i = k := by omega
      subst this
      rw [out i (Nat.le_refl _), hi]
      have : (listed.setIfInBounds i true).getD i true = true := by simp
      rw [this]; simp; omega
theorem left_zero {listed : Array Bool} : ∀ k, left listed k = 0 → ∀ i, i < k → listed.getD i true = true
  | k + 1, h, i, hi => by
    simp only [left] at h
    rcases Nat.lt_or_ge i k with h' | h'
    · exact left_zero k (by omega) i h'
    · have : i = k := by omega
      subst this
      cases hl : listed.getD i true with
      | true => rfl
      | false => rw [hl] at h; simp at h

theorem getD_tf {listed : Array Bool} {i : Nat} (h : i < listed.size) : listed.getD i true = listed.getD i false := by simp [Array.getD_eq_getD_getElem?, Array.getElem?_eq_getElem h]

theorem dr_snd (hm : P.follows .mixedOrders = true) : DrSnd P n (drA Γ n) := by
  intro rid ops C0 C1 a1 fr K Q s h hQ
  obtain ⟨hok, h⟩ := h
  obtain ⟨V, e, frs, Hs, rfl, hH0, hst, pre, ⟨hord, hK⟩, hpr⟩ := drun_ex Γ n ops.toList C1.H ops.toList 0 [] _ _ _ h
  refine wp_region_any hm ?_
  -- the static facts
  have hN : ops.toList.length = ops.size := by simp
  have hget : ∀ j o, ops[j]? = some o → ops.toList[j]? = some o := fun j o h => by rw [Array.getElem?_toList]; exact h
  have hah : ∀ j o, ops[j]? = some o → (∀ d ∈ deps o, d < j) ∧ (∀ x ∈ (ahead [] ops.toList).getD j [], x ∈ deps o ∨ ∃ d ∈ deps o, x ∈ (ahead [] ops.toList).getD d []) ∧
      ∀ i p, i < j → ops[i]? = some p → meets ops.toList p o = true → i ∈ (ahead [] ops.toList).getD j [] := by
    intro j o ho
    have hj : j < ops.toList.length := by rw [hN]; exact (Array.getElem?_eq_some_iff.1 ho).1
    have := allLt_spec hok j hj
    rw [hget j o ho] at this
    simp only [Bool.and_eq_true, List.all_eq_true, Bool.or_eq_true, List.any_eq_true, memN_iff] at this
    obtain ⟨⟨h1, h2⟩, h3⟩ := this
    refine ⟨fun d hd => by simpa [Nat.blt_eq] using h1 d hd, fun x hx => (h2 x hx).imp id fun ⟨d, hd, hx⟩ => ⟨d, hd, hx⟩, fun i p hi hp hmt => ?_⟩
    have := allLt_spec h3 i hi
    rw [hget i p hp] at this
    simp only [Bool.or_eq_true, Bool.not_eq_true', memN_iff] at this
    rcases this with h | h
    · rw [hmt] at h; cases h
    · exact h
  generalize ahead [] ops.toList = ah at *
  -- what is listed is closed
  have hclosed : ∀ (listed : Array Bool), (∀ j o, ops[j]? = some o → listed.getD j false = true → ∀ d ∈ deps o, listed.getD d false = true) →
      ∀ j o, ops[j]? = some o → (∀ d ∈ deps o, listed.getD d false = true) → ∀ x ∈ ah.getD j [], listed.getD x false = true := by
    intro listed hcl j
    induction j using Nat.strongRecOn with
    | _ j ih =>
      intro o ho hd x hx
      obtain ⟨h1, h2, _⟩ := hah j o ho
      rcases h2 x hx with h | ⟨d, hdd, hx⟩
      · exact hd x h
      · have hdj := h1 d hdd
        have hlt : d < ops.size := by have := (Array.getElem?_eq_some_iff.1 ho).1; omega
        exact ih d hdj ops[d] (Array.getElem?_eq_getElem hlt) (hcl d ops[d] (Array.getElem?_eq_getElem hlt) (hd d hdd)) x hx
  -- pairs of operations that have to do with owned blocks
  have hee : ∀ i j, i < j → j < ops.toList.length → (e i).isEff = true → (e j).isEff = true → i ∈ ah.getD j [] := by
    intro i j hij hj hi hj'
    have hni : e i ≠ .no := fun h => by rw [h] at hi; cases hi
    have hnj : e j ≠ .no := fun h => by rw [h] at hj'; cases hj'
    have := (hpr ah hord j hj hnj).2 i hij hni
    simp only [Nat.zero_add, evOk] at this
    cases h1 : e i with
    | eff W =>
      cases h2 : e j with
      | eff W' => rw [h1, h2] at this; simpa [memN_iff] using this
      | _ => rw [h2] at hj'; cases hj'
    | _ => rw [h1] at hi; cases hi
  -- slots between two points
  have hsame : ∀ t x y, x ≤ y → y ≤ ops.size → (∀ i p, x ≤ i → i < y → ops[i]? = some p → p.dst ≠ some t) → (frs y).get t = (frs x).get t := by
    intro t x y hxy
    obtain ⟨d, rfl⟩ := Nat.exists_eq_add_of_le hxy
    clear hxy
    induction d with
    | zero => intro _ _; rfl
    | succ d ih =>
      intro hy hno
      have hxy : x ≤ x + d := Nat.le_add_right _ _
      generalize hyy : x + d = y at *
      rw [show x + (d + 1) = y + 1 by omega] at *
      have hlt : y < ops.size := by omega
      obtain ⟨_, h2, _⟩ := hst y ops[y] (hget y _ (Array.getElem?_eq_getElem hlt))
      rw [h2, Fr.get_put, if_neg (hno y _ hxy (Nat.lt_succ_self y) (Array.getElem?_eq_getElem hlt))]
      exact ih (by omega) (fun i p h1 h2 => hno i p h1 (by omega))
  have hsameH : ∀ x y, x ≤ y → y ≤ ops.size → (∀ i, x ≤ i → i < y → (e i).isEff = false) → Hs y = Hs x := by
    intro x y hxy
    obtain ⟨d, rfl⟩ := Nat.exists_eq_add_of_le hxy
    clear hxy
    induction d with
    | zero => intro _ _; rfl
    | succ d ih =>
      intro hy hno
      have hxy : x ≤ x + d := Nat.le_add_right _ _
      generalize hyy : x + d = y at *
      rw [show x + (d + 1) = y + 1 by omega] at *
      have hlt : y < ops.size := by omega
      obtain ⟨_, _, h3⟩ := hst y ops[y] (hget y _ (Array.getElem?_eq_getElem hlt))
      have he := hno y hxy (Nat.lt_succ_self y)
      have : Hs (y + 1) = Hs y := by
        rcases h3 with ⟨_, ⟨_, h, _⟩ | ⟨h, _⟩ | ⟨_, _, h, _⟩⟩ | ⟨_, _, _, h⟩
        · exact h
        · rw [he] at h; cases h
        · exact h
        · exact h
      rw [this]
      exact ih (by omega) (fun i h1 h2 => hno i h1 (by omega))
  -- the walk, in any order
  -- all listed: the end
  have fin : ∀ (listed : Array Bool) (C : Ctx) (a : Act), (∀ i, i < ops.size → listed.getD i false = true) → Ext C0 C → HRep C → a.tmps.size = n → a.defers = [] →
      (∀ t, ∃ k, k ≤ ops.size ∧ RT C (a.tmps.getD t undef) ((frs k).get t) ∧ ∀ (i : Nat) (p : Oper), ops[i]? = some p → p.dst = some t → (listed.getD i false = true ↔ i < k)) →
      (∃ k, k ≤ ops.size ∧ C.H = Hs k ∧ ∀ i, i < ops.size → (e i).isEff = true → (listed.getD i false = true ↔ i < k)) → Q .normal a C.w := by
    intro listed C a hall hE hC hn hdf hT ⟨k, hk, hH, hke⟩
    have hHN : C.H = Hs ops.toList.length := by
      rw [hN, hH]
      refine (hsameH k ops.size hk (Nat.le_refl _) fun i h1 h2 => ?_).symm
      cases hb : (e i).isEff with
      | false => rfl
      | true => have := (hke i h2 hb).1 (hall i h2); omega
    refine hQ C a (frs ops.toList.length) ⟨hE, hC, fun t => ?_, hn, hdf⟩ (by rw [hHN]; exact hK)
    obtain ⟨k, hk, hr, hkt⟩ := hT t
    rw [hN, hsame t k ops.size hk (Nat.le_refl _) fun i p h1 h2 hp hd => ?_]
    · exact hr
    · have := (hkt i p hp hd).1 (hall i h2); omega
  -- the walk, in any order
  have main : ∀ (fuel : Nat) (listed : Array Bool) (C : Ctx) (a : Act), listed.size = ops.size → left listed ops.size ≤ fuel →
      (∀ (j : Nat) (o : Oper), ops[j]? = some o → listed.getD j false = true → ∀ d ∈ deps o, listed.getD d false = true) →
      Ext C0 C → HRep C → a.tmps.size = n → a.defers = [] →
      (∀ t, ∃ k, k ≤ ops.size ∧ RT C (a.tmps.getD t undef) ((frs k).get t) ∧ ∀ (i : Nat) (p : Oper), ops[i]? = some p → p.dst = some t → (listed.getD i false = true ↔ i < k)) →
      (∃ k, k ≤ ops.size ∧ C.H = Hs k ∧ ∀ i, i < ops.size → (e i).isEff = true → (listed.getD i false = true ↔ i < k)) →
      wpAny P .any ops Q fuel listed a C.w := by
    intro fuel
    induction fuel with
    | zero =>
      intro listed C a hsz hl hcl hE hC hn hdf hT hHk
      have hall := left_zero ops.size (by omega : left listed ops.size = 0)
      have hall' : ∀ i, i < ops.size → listed.getD i false = true := fun i hi => by rw [← getD_tf (by omega)]; exact hall i hi
      refine ⟨?_, fin listed C a hall' hE hC hn hdf hT hHk⟩
      cases hr : Region.ready .any ops listed with
      | nil => rfl
      | cons x r =>
        have : x ∈ Region.ready .any ops listed := by rw [hr]; simp
        obtain ⟨h0, o, ho, _⟩ := mem_ready.1 this
        rw [hall x (Array.getElem?_eq_some_iff.1 ho).1] at h0; cases h0
    | succ fuel ih =>
      intro listed C a hsz hl hcl hE hC hn hdf hT hHk
      refine ⟨fun hr => fin listed C a ?_ hE hC hn hdf hT hHk, fun j hj => ?_⟩
      · -- nothing is ready: all is listed
        intro i
        induction i using Nat.strongRecOn with
        | _ i ih =>
          intro hi
          cases hb : listed.getD i false with
          | true => rfl
          | false =>
            have ho : ops[i]? = some ops[i] := Array.getElem?_eq_getElem hi
            have : i ∈ Region.ready .any ops listed := mem_ready.2 ⟨by rw [getD_tf (by omega)]; exact hb, ops[i], ho, fun ed hed hbd => by
              have hd : ed.on ∈ deps ops[i] := List.mem_filterMap.2 ⟨ed, by simpa using hed, by simp [hbd]⟩
              have := (hah i _ ho).1 _ hd
              exact ih _ this (by omega)⟩
            rw [hr] at this; cases this
      · obtain ⟨hun, o, ho, haft⟩ := mem_ready.1 hj
        have hjs : j < ops.size := (Array.getElem?_eq_some_iff.1 ho).1
        have hunf : listed.getD j false = false := by rw [← getD_tf (by omega)]; exact hun
        have hdl : ∀ d ∈ deps o, listed.getD d false = true := fun d hd => by
          obtain ⟨ed, hed, h⟩ := List.mem_filterMap.1 hd
          by_cases hb : Region.binds .any ed = true
          · rw [if_pos hb] at h; cases h
            exact haft ed (by simpa using hed) hb
          · rw [if_neg hb] at h; cases h
        have hahj := hclosed listed hcl j o ho hdl
        have hnot : ∀ i p, ops[i]? = some p → j ∈ ah.getD i [] → listed.getD i false = false := fun i p hp hm => by
          cases hb : listed.getD i false with
          | false => rfl
          | true =>
            have := hclosed listed hcl i p hp (hcl i p hp hb) j hm
            rw [hunf] at this; cases this
        obtain ⟨hdst, hfr, hf⟩ := hst j o (hget j o ho)
        obtain ⟨_, _, hmt⟩ := hah j o ho
        -- a slot that the operation looks at
        have hread : ∀ t, (t ∈ opTmps o.op ∨ t ∈ gTmps ops.toList o) → RT C (a.tmps.getD t undef) ((frs j).get t) := by
          intro t ht
          obtain ⟨k, hk, hr, hkt⟩ := hT t
          have hm1 : ∀ p : Oper, p.dst = some t → meets ops.toList p o = true := fun p hp => by
            unfold meets
            rw [hp]
            simp only [Bool.or_eq_true, memN_iff]
            exact .inl (.inl ht)
          have hm2 : ∀ p : Oper, p.dst = some t → meets ops.toList o p = true := fun p hp => by
            unfold meets
            rw [hp]
            simp only [Bool.or_eq_true, memN_iff]
            exact .inr ht
          rcases Nat.le_total k j with hkj | hkj
          · rw [hsame t k j hkj (by omega) fun i p h1 h2 hp hd => ?_]
            · exact hr
            · have := (hkt i p hp hd).1 (hahj i (hmt i p h2 hp (hm1 p hd)))
              omega
          · rw [← hsame t j k hkj hk fun i p h1 h2 hp hd => ?_]
            · exact hr
            · have hl := (hkt i p hp hd).2 h2
              rcases Nat.lt_or_ge j i with hji | hji
              · have := hnot i p hp ((hah i p hp).2.2 j o hji ho (hm2 p hd))
                rw [this] at hl; cases hl
              · have : i = j := by omega
                subst this
                rw [hunf] at hl; cases hl
        -- what comes behind it
        have step : ∀ (v : Value) (C' : Ctx), Ext C C' → HRep C' → RT C' v (V j) → (C'.H = C.H ∧ (e j).isEff = false ∨ C'.H = Hs (j + 1) ∧ (e j).isEff = true ∧ C.H = Hs j) →
            wpAny P .any ops Q fuel (listed.setIfInBounds j true) (a.put o.dst v) C'.w := by
          intro v C' hE' hC' hv hH'
          have hgt : ∀ i, i ≠ j → (listed.setIfInBounds j true).getD i false = listed.getD i false := fun i hi => getD_set_ne false (Ne.symm hi)
          have hgj : (listed.setIfInBounds j true).getD j false = true := by simp [show j < listed.size by omega]
          refine ih _ C' _ (by simp [hsz]) (by have := left_set hun ops.size hjs; omega) ?_ (hE.trans hE') hC' ?_ ?_ ?_ ?_
          · intro i p hp hi d hd
            by_cases hij : i = j
            · subst hij
              rw [ho] at hp; cases hp
              exact getD_set_true (hdl d hd)
            · rw [hgt i hij] at hi
              exact getD_set_true (hcl i p hp hi d hd)
          · cases o.dst <;> simp [Act.put, hn]
          · cases o.dst <;> simp [Act.put, hdf]
          · intro t
            by_cases htd : o.dst = some t
            · refine ⟨j + 1, by omega, ?_, fun i p hp hd => ?_⟩
              · have hlt : t < a.tmps.size := by
                  rw [htd] at hdst
                  rw [hn]; simpa [dstOk, Nat.blt_eq] using hdst
                rw [hfr, Fr.get_put, if_pos htd, htd]
                simp only [Act.put]
                simp only [Array.getD_eq_getD_getElem?, Array.getElem?_setIfInBounds_self_of_lt hlt, Option.getD_some]
                exact hv
              · by_cases hij : i = j
                · subst hij; simp [hgj]
                · rw [hgt i hij]
                  rcases Nat.lt_or_ge i j with h | h
                  · have : meets ops.toList p o = true := by
                      unfold meets
                      rw [hd, htd]
                      simp [memN_iff]
                    simp [hahj i (hmt i p h hp this)]; omega
                  · have : meets ops.toList o p = true := by
                      unfold meets
                      rw [hd, htd]
                      simp [memN_iff]
                    simp [hnot i p hp ((hah i p hp).2.2 j o (by omega) ho this)]; omega
            · obtain ⟨k, hk, hr, hkt⟩ := hT t
              refine ⟨k, hk, ?_, fun i p hp hd => ?_⟩
              · have : (a.put o.dst v).tmps.getD t undef = a.tmps.getD t undef := by
                  cases hd : o.dst with
                  | none => rfl
                  | some d =>
                    have hne : d ≠ t := fun e => htd (by rw [hd, e])
                    simp only [Act.put, Array.getD_eq_getD_getElem?, Array.getElem?_setIfInBounds_ne hne]
                rw [this]; exact hE'.RT hr
              · have : i ≠ j := fun e => by subst e; rw [ho] at hp; cases hp; exact htd hd
                rw [hgt i this]; exact hkt i p hp hd
          · rcases hH' with ⟨hH', hb⟩ | ⟨hH', hb, hHj⟩
            · obtain ⟨k, hk, hHk, hke⟩ := hHk
              refine ⟨k, hk, by rw [hH']; exact hHk, fun i hi hei => ?_⟩
              have : i ≠ j := fun e => by subst e; rw [hb] at hei; cases hei
              rw [hgt i this]; exact hke i hi hei
            · refine ⟨j + 1, by omega, hH', fun i hi hei => ?_⟩
              by_cases hij : i = j
              · subst hij; simp [hgj]
              · rw [hgt i hij]
                rcases Nat.lt_or_ge i j with h | h
                · have := hee i j h (by rw [hN]; exact hjs) hei hb
                  simp [hahj i this]; omega
                · have := hee j i (by omega) (by rw [hN]; exact hi) hb hei
                  simp [hnot i ops[i] (Array.getElem?_eq_getElem hi) this]; omega
        -- the heap, where the operation has a place
        have hheap : (e j).isEff = true → C.H = Hs j := by
          intro hb
          obtain ⟨k, hk, hHk, hke⟩ := hHk
          rw [hHk]
          rcases Nat.le_total k j with hkj | hkj
          · refine (hsameH k j hkj (by omega) fun i h1 h2 => ?_).symm
            cases hei : (e i).isEff with
            | false => rfl
            | true =>
              have := hee i j h2 (by rw [hN]; exact hjs) hei hb
              have := (hke i (by omega) hei).1 (hahj i this)
              omega
          · refine hsameH j k hkj hk fun i h1 h2 => ?_
            cases hei : (e i).isEff with
            | false => rfl
            | true =>
              have hl := (hke i (by omega) hei).2 h2
              rcases Nat.lt_or_ge j i with hji | hji
              · have := hee j i hji (by rw [hN]; omega) hb hei
                rw [hnot i ops[i] (Array.getElem?_eq_getElem (by omega)) this] at hl; cases hl
              · have : i = j := by omega
                subst this
                rw [hunf] at hl; cases hl
        -- is it wanted
        have hwant : ∀ {T E : Prop}, aWanted ops.toList (frs j) o.guard T E → (Region.wanted o (yielded ops a.tmps) = true ∧ T) ∨ (Region.wanted o (yielded ops a.tmps) = false ∧ E) := by
          intro T E hw
          have hw' : aWanted ops.toList ((gTmps ops.toList o).map fun t => (t, (frs j).get t)) o.guard T E := by
            refine aWanted_congr (fun d hd => ?_) hw
            exact pick_get d _ hd _
          refine aWanted_snd (C0 := C) (n := n) ⟨Ext.refl C hC, hC, fun t => ?_, hn, hdf⟩ hw'
          rcases pick_get' (frs j) (gTmps ops.toList o) t with ⟨h1, h2⟩ | h2
          · rw [h2]; exact hread t (.inr h1)
          · rw [h2]; trivial
        have hfrok : FrOk C a (opFr (frs j) o.op) := fun t => by
          rcases opFr_get (frs j) o.op t with ⟨h1, h2⟩ | h2
          · rw [h2]; exact hread t (.inl h1)
          · rw [h2]; trivial
        unfold wpOp
        simp only [ho]
        rcases hf with ⟨hw, hf⟩ | ⟨hw, hV, hb, hHj⟩
        · rcases hwant hw with ⟨hw, _⟩ | ⟨_, h⟩
          · rw [hw, if_pos rfl]
            left
            rcases hf with ⟨hb, hHj, hf | hf⟩ | ⟨hb, _, hf⟩ | ⟨R, hb, hHj, hf⟩
            · -- it hangs on nothing owned
              obtain ⟨r, H', ⟨rfl, rfl⟩, hy⟩ := aop_snd Γ (C := C.shut) (shut_rep hC) (a := a) (fr := lowFr (opFr (frs j) o.op)) (fun t => by rw [lowFr_get]; exact shut_RT (hfrok t)) hf
              refine hy _ _ fun v D hDH hED hD hv => ?_
              have hJ := join_RT hC hED hv
              rw [shT_eq hDH hv] at hJ
              exact step v (C.join D) (join_ext hC hED) (join_rep hC hED hD) hJ (.inl ⟨by simp [Ctx.join, hDH], by rw [hb]; rfl⟩)
            · -- whatever is owned
              obtain ⟨r, H', ⟨rfl, rfl⟩, hy⟩ := aop_snd Γ hC hfrok (hf C.H)
              refine hy _ _ fun v C' hCH hE' hC' hv => ?_
              exact step v C' hE' hC' hv (.inl ⟨hCH, by rw [hb]; rfl⟩)
            · obtain ⟨r, H', ⟨rfl, rfl⟩, hy⟩ := aop_snd Γ hC hfrok (by rw [hheap hb]; exact hf)
              refine hy _ _ fun v C' hCH hE' hC' hv => ?_
              exact step v C' hE' hC' hv (.inr ⟨hCH, hb, hheap hb⟩)
            · -- it reads blocks that nothing before it has changed
              obtain ⟨k, hk, hHk, hke⟩ := hHk
              have hag : ∀ y, y ≤ k → (Hs 0).length ≤ (Hs y).length ∧ ∀ id, id < (Hs 0).length → id ∈ R → (Hs y)[id]? = (Hs 0)[id]? := by
                intro y
                induction y with
                | zero => intro _; exact ⟨Nat.le_refl _, fun _ _ _ => rfl⟩
                | succ y ihy =>
                  intro hyk
                  obtain ⟨h1, h2⟩ := ihy (by omega)
                  obtain ⟨_, _, h3⟩ := hst y ops[y] (hget y _ (Array.getElem?_eq_getElem (by omega)))
                  have same : Hs (y + 1) = Hs y → (Hs 0).length ≤ (Hs (y + 1)).length ∧ ∀ id, id < (Hs 0).length → id ∈ R → (Hs (y + 1))[id]? = (Hs 0)[id]? := fun h => by rw [h]; exact ⟨h1, h2⟩
                  rcases h3 with ⟨_, ⟨_, h, _⟩ | ⟨hey, hW, _⟩ | ⟨_, _, h, _⟩⟩ | ⟨_, _, _, h⟩
                  · exact same h
                  · have hly := (hke y (by omega) hey).2 (by omega)
                    have hyj : y ≠ j := fun h => by subst h; rw [hb] at hey; cases hey
                    have hnj : e j ≠ .no := by rw [hb]; simp
                    have hny : e y ≠ .no := fun h => by rw [h] at hey; cases hey
                    have hnt : ∃ W, e y = .eff (some W) ∧ touch (some W) R = false := by
                      cases hy' : e y with
                      | no => exact absurd hy' hny
                      | rd _ => rw [hy'] at hey; cases hey
                      | eff Wo =>
                        have ht : touch Wo R = false := by
                          rcases Nat.lt_or_gt_of_ne hyj with hlt | hgt
                          · have := (hpr ah hord j (by rw [hN]; exact hjs) hnj).2 y hlt hny
                            simp only [evOk, hb, hy'] at this
                            simpa using this
                          · have := (hpr ah hord y (by rw [hN]; omega) hny).2 j hgt hnj
                            simp only [evOk, hb, hy', Nat.zero_add, Bool.or_eq_true, memN_iff] at this
                            rcases this with h | h
                            · simpa using h
                            · rw [hnot y ops[y] (Array.getElem?_eq_getElem (by omega)) h] at hly; cases hly
                        cases Wo with
                        | none => simp [touch] at ht
                        | some W => exact ⟨W, rfl, ht⟩
                    obtain ⟨W, hyW, ht⟩ := hnt
                    obtain ⟨g1, g2⟩ := agree_get (hW W hyW)
                    refine ⟨by omega, fun id hid hr => ?_⟩
                    rw [g2 id (by omega) ?_, h2 id hid hr]
                    rw [Nat.zero_add]
                    intro hm
                    simp only [touch, List.any_eq_false, memN_iff] at ht
                    exact ht id hr hm
                  · exact same h
                  · exact same h
              obtain ⟨g1, g2⟩ := hag k (Nat.le_refl _)
              obtain ⟨f, T, hfT⟩ := holes_eq (R := R) 0 (Hs 0) (Hs k) g1 (fun id hid hr => g2 id hid (by simpa using hr))
              have hCf : C.H = holes R f T 0 C1.H := by rw [hHk, hfT, hH0]
              obtain ⟨r, H', ⟨rfl, rfl⟩, hy⟩ := aop_snd Γ hC hfrok (by rw [hCf]; exact hf f T)
              refine hy _ _ fun v C' hCH hE' hC' hv => ?_
              exact step v C' hE' hC' hv (.inl ⟨by rw [hCH, hCf], by rw [hb]; rfl⟩)
          · exact h.elim
        · rcases hwant hw with ⟨_, h⟩ | ⟨hw, _⟩
          · exact h.elim
          · rw [hw]
            simp only [Bool.false_eq_true, if_false]
            exact step undef C (Ext.refl C hC) hC (by rw [hV]; exact ⟨#[], rfl, rfl, fun i h => by simp at h⟩) (.inl ⟨rfl, by rw [hb]; rfl⟩)
  obtain ⟨hE1, hC1⟩ := grown_ext s.rep (w' := { C1.w with drawn := C1.w.drawn + 1 }) rfl rfl rfl (Nat.le_refl _) (fun _ _ => rfl)
  refine main ops.size _ { C1 with w := { C1.w with drawn := C1.w.drawn + 1 } } a1 (by simp) ?_ ?_ (s.ext.trans hE1) hC1 s.size s.defers ?_ ?_
  · have : ∀ (l : Array Bool) k, left l k ≤ k := by
      intro l k
      induction k with
      | zero => exact Nat.le_refl _
      | succ k ih => simp only [left]; split <;> omega
    exact this _ _
  · intro j o _ hj
    simp [Array.getElem?_replicate] at hj
    split at hj <;> simp at hj
  · intro t
    refine ⟨0, Nat.zero_le _, hE1.RT (s.fr t), fun i p hp hd => ?_⟩
    simp [Array.getElem?_replicate]
    split <;> simp
  · refine ⟨0, Nat.zero_le _, hH0.symm, fun i hi _ => ?_⟩
    simp [Array.getElem?_replicate]
    split <;> simp
end

end Go.Bv
