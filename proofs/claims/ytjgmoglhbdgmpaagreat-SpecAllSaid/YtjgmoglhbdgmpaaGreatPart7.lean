/- Part of the lift: an abstract walk of the program's code, proved sound, and what it shows of this program. -/
import Derived.Test.YtjgmoglhbdgmpaaGreatPart5
import Derived.Test.YtjgmoglhbdgmpaaGreatPart6
import Derived.Sort.AssemblyPlain
namespace Go.Bv
open Go Go.Proofs
def okInt (z : Int) : Prop := -9223372036854775808 ≤ z ∧ z < 9223372036854775808
@[ext] structure Dot where
 node : Int
 seq : Int
 at' : Int
 deriving DecidableEq
@[ext] structure Item where
 key : List UInt8
 field : List UInt8
 kind : Int
 elem : List UInt8
 n : Int
 dot : Dot
 deriving DecidableEq
@[ext] structure Eff where
 at' : Int
 key : List UInt8
 field : List UInt8
 kind : Int
 elem : List UInt8
 n : Int
 drops : List Dot
 deriving DecidableEq
@[ext] structure Txn where
 node : Int
 seq : Int
 deps : List Int
 effs : List Eff
 deriving DecidableEq
@[ext] structure Store where
 heard : List Int
 items : List Item
 deriving DecidableEq
@[ext] structure Past where
 floor : List Int
 list : List Txn
 deriving DecidableEq
@[ext] structure Queue where
 most : Int
 list : List Txn
 deriving DecidableEq
@[ext] structure Packet where
 src : Int
 dst : Int
 bytes : List UInt8
 deriving DecidableEq
@[ext] structure Net where
 way : List Packet
 deriving DecidableEq
structure NetOp where
 do' : Int
 src : Int
 dst : Int
 i : Int
 b : List UInt8
structure JOp where
 do' : Int
 keep : Int
 b : List UInt8
structure QOp where
 hears : Bool
 n : Int
 t : Txn
def dotC (x : Dot) : List AV := [i64 x.node, i64 x.seq, i64 x.at']
def dotA (x : Dot) : AV := .agg (dotC x)
def itemC (x : Item) : List AV := [.str x.key, .str x.field, i64 x.kind, .str x.elem, i64 x.n, i64 x.dot.node, i64 x.dot.seq, i64 x.dot.at']
def itemA (x : Item) : AV := .agg (itemC x)
def dotsA (l : List Dot) : AV := .list (.agg 3) (l.map dotA)
def itemsA (l : List Item) : AV := .list (.agg 8) (l.map itemA)
def effC (x : Eff) : List AV := [i64 x.at', .str x.key, .str x.field, i64 x.kind, .str x.elem, i64 x.n, dotsA x.drops]
def effA (x : Eff) : AV := .agg (effC x)
def effsA (l : List Eff) : AV := .list (.agg 7) (l.map effA)
def txnC (x : Txn) : List AV := [i64 x.node, i64 x.seq, ints x.deps, effsA x.effs]
def txnA (x : Txn) : AV := .agg (txnC x)
def txnsA (l : List Txn) : AV := .list (.agg 4) (l.map txnA)
def okDot (x : Dot) : Prop := okInt x.node ∧ okInt x.seq ∧ okInt x.at'
def okEff (x : Eff) : Prop := okInt x.at' ∧ x.key.length ≤ reachBytes ∧ x.field.length ≤ reachBytes ∧ okInt x.kind ∧ x.elem.length ≤ reachBytes ∧ okInt x.n ∧ (x.drops.length ≤ reachBytes ∧ ∀ y ∈ x.drops, okDot y)
def okTxn (x : Txn) : Prop := okInt x.node ∧ okInt x.seq ∧ (x.deps.length ≤ reachBytes ∧ ∀ y ∈ x.deps, okInt y) ∧ (x.effs.length ≤ reachBytes ∧ ∀ y ∈ x.effs, okEff y)
theorem snocMap {α β : Type} (f : α → β) (l : List α) {i : Nat} (h : i < l.length) : (l.take (i + 1)).map f = (l.take i).map f ++ [f l[i]] := by
 rw [List.take_succ_eq_append_getElem h, List.map_append]; rfl
theorem drop_more {xs l : List AV} {o n : Nat} (h : (xs.drop o).take n = l) (hn : l.length = n) : xs.drop o = l ++ xs.drop (o + n) := by
 conv => lhs; rw [← List.take_append_drop n (xs.drop o), h, List.drop_drop]
theorem drop_all' {xs : List AV} {n : Nat} (h : xs.length = n) : xs.drop n = [] := List.drop_eq_nil_of_le (by omega)
end Go.Bv
namespace Go.Bv
open Go Go.Proofs
def okc (c : UInt8) : Bool := decide (c.toNat = 47) || decide (48 ≤ c.toNat ∧ c.toNat ≤ 57) || decide (97 ≤ c.toNat ∧ c.toNat ≤ 122)
def pref (s : List UInt8) : Bool := decide (s.length ≤ 16) && s.all okc
def keyB (s : List UInt8) : Bool := decide (s ≠ []) && pref s
def dotOk (d : Dot) : Bool := decide (0 ≤ d.node ∧ d.node < 8 ∧ 1 ≤ d.seq ∧ d.seq ≤ 1073741824 ∧ 0 ≤ d.at' ∧ d.at' < 8)
def kindOk (x : Item) : Bool := decide ((x.kind = 1 ∨ x.kind = 2) ∧ x.n = 0 ∨ x.kind = 3 ∧ x.elem = [])
def itemOk (x : Item) : Bool := keyB x.key && (pref x.field && (decide (x.elem.length ≤ 32) && (kindOk x && dotOk x.dot)))
def dlt (a b : Dot) : Bool := decide (a.node < b.node ∨ a.node = b.node ∧ (a.seq < b.seq ∨ a.seq = b.seq ∧ a.at' < b.at'))
/-- Neighbours. -/
def adj {α : Type} (r : α → α → Bool) : List α → Bool
 | [] => true
 | [_] => true
 | x :: y :: t => r x y && adj r (y :: t)
def made (node seq : Int) (e : Eff) : Item := ⟨e.key, e.field, e.kind, e.elem, e.n, ⟨node, seq, e.at'⟩⟩
def dropsOk (l : List Dot) : Bool := decide (l.length ≤ 64) && (l.all dotOk && adj dlt l)
def effOk (node seq : Int) (e : Eff) : Bool := dropsOk e.drops && (if e.kind = 0 then decide (e.drops ≠ [] ∧ e.elem = []) && itemOk (made node seq { e with kind := 1 }) else itemOk (made node seq e))
def ownOk (node seq : Int) (e : Eff) : Bool := e.drops.all fun d => decide (¬ (d.node = node ∧ d.seq = seq ∧ e.at' ≤ d.at'))
def effsOk (node seq : Int) (l : List Eff) : Bool := l.all (fun e => effOk node seq e && ownOk node seq e) && adj (fun a b => decide (a.at' < b.at')) l
def hasB (v : List Int) (node seq : Int) : Bool := decide (1 ≤ seq ∧ seq ≤ vatI v node)
def heardB (l : List Eff) (node seq : Int) (v : List Int) : Bool := l.all fun e => e.drops.all fun d => hasB v d.node d.seq || decide (d.node = node ∧ d.seq = seq)
def vecOk (v : List Int) : Bool := decide (trim v = v) && v.all fun n => decide (n ≤ 1073741824)
def formed (t : Txn) : Bool := decide (0 ≤ t.node ∧ t.node < 8 ∧ 1 ≤ t.seq ∧ t.seq ≤ 1073741824 ∧ t.deps.length ≤ 8 ∧ t.effs.length ≤ 8) &&
 (vecOk t.deps && (decide (vatI t.deps t.node = t.seq - 1) && (effsOk t.node t.seq t.effs && heardB t.effs t.node t.seq t.deps)))
theorem adj_iff {α : Type} (r : α → α → Bool) : ∀ (l : List α), adj r l = true ↔ ∀ (i : Nat) (h : i + 1 < l.length), r l[i] l[i + 1] = true
 | [] => by simp [adj]
 | [_] => by simp [adj]
 | x :: y :: t => by
  rw [adj, Bool.and_eq_true, adj_iff r (y :: t)]
  refine ⟨fun ⟨h1, h2⟩ i hi => ?_, fun h => ⟨h 0 (by simp), fun i hi => h (i + 1) (by simpa using hi)⟩⟩
  cases i with
  | zero => exact h1
  | succ i => exact h2 i (by simpa using hi)
/-- One step of a look at all. -/
theorem all_step {α : Type} {p : α → Bool} {l : List α} {i : Nat} (h : i < l.length) (ht : ∀ x ∈ l.take i, p x = true) : (p l[i] = false → l.all p = false) ∧ (p l[i] = true → ∀ x ∈ l.take (i + 1), p x = true) := by
 refine ⟨fun hp => ?_, fun hp x hx => ?_⟩
 ·rw [List.all_eq_false]; exact ⟨l[i], List.getElem_mem h, by simp [hp]⟩
 ·rw [List.take_succ_eq_append_getElem h] at hx
  rcases List.mem_append.1 hx with hx | hx
  ·exact ht x hx
  ·rw [List.mem_singleton.1 hx]; exact hp
theorem all_end {α : Type} {p : α → Bool} {l : List α} (h : ∀ x ∈ l.take l.length, p x = true) : l.all p = true := by
 rw [List.take_length] at h
 exact List.all_eq_true.2 h
end Go.Bv
namespace Go.Bv
open Go Go.Proofs
def lexR {α β : Type} (f : α → β) (r : β → β → Prop) (s : α → α → Prop) (a b : α) : Prop := r (f a) (f b) ∨ f a = f b ∧ s a b
@[instance_reducible] def lexD {α β : Type} [DecidableEq β] {f : α → β} {r : β → β → Prop} {s : α → α → Prop} [DecidableRel r] (hs : DecidableRel s) : DecidableRel (lexR f r s) := fun a b => have := hs a b; inferInstanceAs (Decidable (r (f a) (f b) ∨ f a = f b ∧ s a b))
theorem lex_irrefl {α β : Type} {f : α → β} {r : β → β → Prop} {s : α → α → Prop} (hr : ∀ x, ¬ r x x) (hs : ∀ x, ¬ s x x) : ∀ x, ¬ lexR f r s x x := fun x h => by
 rcases h with h | h
 ·exact hr _ h
 ·exact hs _ h.2
theorem lex_trans {α β : Type} {f : α → β} {r : β → β → Prop} {s : α → α → Prop} (hr : ∀ x y z, r x y → r y z → r x z) (hs : ∀ x y z, s x y → s y z → s x z) : ∀ x y z, lexR f r s x y → lexR f r s y z → lexR f r s x z := fun x y z h k => by
 rcases h with h | ⟨h1, h2⟩ <;> rcases k with k | ⟨k1, k2⟩
 ·exact .inl (hr _ _ _ h k)
 ·exact .inl (k1 ▸ h)
 ·exact .inl (h1 ▸ k)
 ·exact .inr ⟨h1.trans k1, hs _ _ _ h2 k2⟩
theorem lex_tri {α β : Type} {f : α → β} {r : β → β → Prop} {s E : α → α → Prop} (hr : ∀ x y, r x y ∨ x = y ∨ r y x) (hs : ∀ x y, s x y ∨ E x y ∨ s y x) : ∀ x y, lexR f r s x y ∨ (f x = f y ∧ E x y) ∨ lexR f r s y x := fun x y => by
 rcases hr (f x) (f y) with h | h | h
 ·exact .inl (.inl h)
 ·rcases hs x y with k | k | k
  ·exact .inl (.inr ⟨h, k⟩)
  ·exact .inr (.inl ⟨h, k⟩)
  ·exact .inr (.inr (.inr ⟨h.symm, k⟩))
 ·exact .inr (.inr (.inl h))
def ltS (a b : List UInt8) : Prop := a < b
instance : DecidableRel ltS := fun a b => inferInstanceAs (Decidable (a < b))
def ltZ (a b : Int) : Prop := a < b
instance : DecidableRel ltZ := fun a b => inferInstanceAs (Decidable (a < b))
def ltN (a b : Item) : Prop := ltZ a.n b.n
instance : DecidableRel ltN := fun a b => inferInstanceAs (Decidable (a.n < b.n))
def ILt : Item → Item → Prop := lexR Item.key ltS (lexR Item.field ltS (lexR Item.kind ltZ (lexR (fun x => x.dot.node) ltZ (lexR (fun x => x.dot.seq) ltZ (lexR (fun x => x.dot.at') ltZ (lexR Item.elem ltS ltN))))))
instance : DecidableRel ILt := lexD (lexD (lexD (lexD (lexD (lexD (lexD (inferInstanceAs (DecidableRel ltN))))))))
theorem ltS_irrefl (x : List UInt8) : ¬ ltS x x := List.lt_irrefl x
theorem ltS_trans (x y z : List UInt8) (h1 : ltS x y) (h2 : ltS y z) : ltS x z := List.lt_trans h1 h2
theorem ltS_tri (x y : List UInt8) : ltS x y ∨ x = y ∨ ltS y x := by
 by_cases h1 : x < y
 ·exact .inl h1
 ·by_cases h2 : y < x
  ·exact .inr (.inr h2)
  ·exact .inr (.inl (List.le_antisymm (List.not_lt.1 h2) (List.not_lt.1 h1)))
theorem ltZ_irrefl (x : Int) : ¬ ltZ x x := Int.lt_irrefl x
theorem ltZ_trans (x y z : Int) (h1 : ltZ x y) (h2 : ltZ y z) : ltZ x z := Int.lt_trans h1 h2
theorem ltZ_tri (x y : Int) : ltZ x y ∨ x = y ∨ ltZ y x := Int.lt_trichotomy x y
theorem ILt_irrefl (x : Item) : ¬ ILt x x := lex_irrefl ltS_irrefl (lex_irrefl ltS_irrefl (lex_irrefl ltZ_irrefl (lex_irrefl ltZ_irrefl (lex_irrefl ltZ_irrefl (lex_irrefl ltZ_irrefl (lex_irrefl ltS_irrefl fun x => ltZ_irrefl x.n)))))) x
theorem ILt_trans {x y z : Item} (h1 : ILt x y) (h2 : ILt y z) : ILt x z :=
 lex_trans ltS_trans (lex_trans ltS_trans (lex_trans ltZ_trans (lex_trans ltZ_trans (lex_trans ltZ_trans (lex_trans ltZ_trans (lex_trans ltS_trans fun x y z => ltZ_trans x.n y.n z.n)))))) x y z h1 h2
theorem ILt_tri (x y : Item) : ILt x y ∨ x = y ∨ ILt y x := by
 rcases lex_tri (f := Item.key) ltS_tri (lex_tri (f := Item.field) ltS_tri (lex_tri (f := Item.kind) ltZ_tri (lex_tri (f := fun x : Item => x.dot.node) ltZ_tri (lex_tri (f := fun x : Item => x.dot.seq) ltZ_tri (lex_tri (f := fun x : Item => x.dot.at') ltZ_tri
  (lex_tri (f := Item.elem) ltS_tri (s := ltN) (E := fun a b => a.n = b.n) fun x y => ltZ_tri x.n y.n)))))) x y with h | ⟨h1, h2, h3, h4, h5, h6, h7, h8⟩ | h
 ·exact .inl h
 ·exact .inr (.inl (Item.ext h1 h2 h3 h7 h8 (Dot.ext h4 h5 h6)))
 ·exact .inr (.inr h)
def ltI (a b : Item) : Bool := decide (ILt a b)
instance : Inhabited Item := ⟨⟨[], [], 0, [], 0, ⟨0, 0, 0⟩⟩⟩
theorem swoI : Go.Sort.SWO ltI where
 irrefl x := decide_eq_false (ILt_irrefl x)
 trans x y z h1 h2 := decide_eq_true (ILt_trans (of_decide_eq_true h1) (of_decide_eq_true h2))
 ntrans x y z h1 h2 := decide_eq_false fun h => by
  have h1 := of_decide_eq_false h1
  have h2 := of_decide_eq_false h2
  rcases ILt_tri x y with k | rfl | k
  ·exact h1 k
  ·exact h2 h
  ·exact h2 (ILt_trans k h)
def leI (x y : Item) : Bool := !ltI y x
def isort (l : List Item) : List Item := l.mergeSort leI
theorem pdq_isort (l : List Item) (limit : Nat) : (Go.Sort.pdq ltI l.toArray 0 l.length limit true true).toList = isort l := by
 have h := Go.Sort.pdq_sorts ltI swoI l.toArray 0 l.length limit true true (Nat.zero_le _) (by simp) (Or.inl rfl)
 have := Go.Sort.sorted_unique_holds swoI (fun x y h1 h2 => by
  rcases ILt_tri x y with k | k | k
  ·exact absurd k (of_decide_eq_false h1)
  ·exact k
  ·exact absurd k (of_decide_eq_false h2)) l.toArray _ (by simpa using h.1) (by simpa using h.2)
 exact this
theorem isort_perm (l : List Item) : (isort l).Perm l := List.mergeSort_perm _ _
theorem isort_pw (l : List Item) : (isort l).Pairwise fun a b => ¬ ILt b a := by
 have := List.pairwise_mergeSort (le := leI) (fun a b c h1 h2 => by
  unfold leI at *
  simp only [Bool.not_eq_true'] at *
  exact swoI.ntrans c b a h2 h1) (fun a b => by
  unfold leI ltI
  rcases ILt_tri a b with k | rfl | k
  ·have : ¬ ILt b a := fun h => ILt_irrefl _ (ILt_trans h k)
   simp [this]
  ·simp [ILt_irrefl]
  ·have : ¬ ILt a b := fun h => ILt_irrefl _ (ILt_trans h k)
   simp [this]) l
 exact this.imp fun h => by unfold leI ltI at h; simpa using h
/-- Of each dot the first one. -/
def nubF : List Dot → List Item → List Item
 | _, [] => []
 | seen, x :: r => if x.dot ∈ seen then nubF seen r else x :: nubF (x.dot :: seen) r
def norm (l : List Item) : List Item := nubF [] (isort l)
theorem nubF_sub : ∀ (seen : List Dot) (l : List Item), (nubF seen l).Sublist l
 | _, [] => .slnil
 | seen, x :: r => by
  rw [nubF]
  split
  ·exact (nubF_sub seen r).cons _
  ·exact (nubF_sub _ r).cons_cons _
theorem nubF_mem : ∀ {l : List Item} (seen : List Dot), l.Pairwise (fun a b => ¬ ILt b a) → ∀ x, x ∈ nubF seen l ↔ x.dot ∉ seen ∧ x ∈ l ∧ ∀ y ∈ l, y.dot = x.dot → ¬ ILt y x
 | [], seen, _, x => by simp [nubF]
 | a :: r, seen, h, x => by
  rw [List.pairwise_cons] at h
  rw [nubF]
  split
  ·rename_i ha
   rw [nubF_mem seen h.2 x]
   constructor
   ·rintro ⟨h1, h2, h3⟩
    refine ⟨h1, List.mem_cons_of_mem _ h2, fun y hy e => ?_⟩
    rcases List.mem_cons.1 hy with rfl | hy
    ·exact absurd (e ▸ ha) h1
    ·exact h3 y hy e
   ·rintro ⟨h1, h2, h3⟩
    refine ⟨h1, ?_, fun y hy => h3 y (List.mem_cons_of_mem _ hy)⟩
    rcases List.mem_cons.1 h2 with rfl | h2
    ·exact absurd ha h1
    ·exact h2
  ·rename_i ha
   rw [List.mem_cons, nubF_mem _ h.2 x]
   constructor
   ·rintro (rfl | ⟨h1, h2, h3⟩)
    ·refine ⟨ha, List.mem_cons_self .., fun y hy _ => ?_⟩
     rcases List.mem_cons.1 hy with rfl | hy
     ·exact ILt_irrefl _
     ·exact h.1 y hy
    ·rw [List.mem_cons, not_or] at h1
     refine ⟨h1.2, List.mem_cons_of_mem _ h2, fun y hy e => ?_⟩
     rcases List.mem_cons.1 hy with rfl | hy
     ·exact absurd e.symm h1.1
     ·exact h3 y hy e
   ·rintro ⟨h1, h2, h3⟩
    by_cases e : x.dot = a.dot
    ·refine .inl ?_
     rcases List.mem_cons.1 h2 with rfl | h2
     ·rfl
     ·rcases ILt_tri x a with k | k | k
      ·exact absurd k (h.1 x h2)
      ·exact k
      ·exact absurd k (h3 a (List.mem_cons_self ..) e.symm)
    ·refine .inr ⟨by rw [List.mem_cons, not_or]; exact ⟨e, h1⟩, ?_, fun y hy => h3 y (List.mem_cons_of_mem _ hy)⟩
     rcases List.mem_cons.1 h2 with rfl | h2
     ·exact absurd rfl e
     ·exact h2
theorem nubF_seen : ∀ (l : List Item) (seen : List Dot), ∀ x ∈ nubF seen l, x.dot ∉ seen
 | [], _, x, h => by simp [nubF] at h
 | a :: r, seen, x, h => by
  rw [nubF] at h
  split at h
  ·exact nubF_seen r seen x h
  ·rcases List.mem_cons.1 h with rfl | h
   ·assumption
   ·exact fun hx => nubF_seen r _ x h (List.mem_cons_of_mem _ hx)
theorem nubF_dots : ∀ (l : List Item) (seen : List Dot), (nubF seen l).Pairwise fun a b => a.dot ≠ b.dot
 | [], _ => by simp [nubF]
 | a :: r, seen => by
  rw [nubF]
  split
  ·exact nubF_dots r seen
  ·refine List.pairwise_cons.2 ⟨fun x hx e => nubF_seen r _ x hx ?_, nubF_dots r _⟩
   rw [← e]; exact List.mem_cons_self ..
/-- What of some items is the least of its dot. -/
def Lst (l : List Item) (x : Item) : Prop := x ∈ l ∧ ∀ y ∈ l, y.dot = x.dot → ¬ ILt y x
theorem mem_norm {l : List Item} {x : Item} : x ∈ norm l ↔ Lst l x := by
 unfold norm
 rw [nubF_mem [] (isort_pw l)]
 simp only [List.not_mem_nil, not_false_eq_true, true_and, (isort_perm l).mem_iff]
 rfl
theorem norm_dots (l : List Item) : (norm l).Pairwise fun a b => a.dot ≠ b.dot := nubF_dots _ _
theorem norm_pw (l : List Item) : (norm l).Pairwise ILt := by
 refine (norm_dots l).imp₂ ?_ ((isort_pw l).sublist (nubF_sub [] _))
 intro a b h1 h2
 rcases ILt_tri a b with k | rfl | k
 ·exact k
 ·exact absurd rfl h1
 ·exact absurd k h2
theorem pwI_eq {l m : List Item} (hl : l.Pairwise ILt) (hm : m.Pairwise ILt) (h : ∀ x, x ∈ l ↔ x ∈ m) : l = m := by
 have nl : l.Nodup := hl.imp fun {a b} h => fun e => ILt_irrefl b (by rwa [e] at h)
 have nm : m.Nodup := hm.imp fun {a b} h => fun e => ILt_irrefl b (by rwa [e] at h)
 refine List.Perm.eq_of_pairwise (le := ILt) ?_ hl hm ((List.perm_ext_iff_of_nodup nl nm).2 h)
 intro a b _ _ h1 h2
 exact absurd (ILt_trans h1 h2) (ILt_irrefl a)
theorem norm_is {l m : List Item} (hm : m.Pairwise ILt) (h : ∀ x, x ∈ m ↔ Lst l x) : norm l = m :=
 pwI_eq (norm_pw l) hm fun x => by rw [mem_norm, h]
theorem norm_self {l : List Item} (h : l.Pairwise ILt) (hd : l.Pairwise fun a b => a.dot ≠ b.dot) : norm l = l := norm_is h fun x => by
 refine ⟨fun hx => ⟨hx, fun y hy e => ?_⟩, fun hx => hx.1⟩
 have : y = x := by
  rw [List.pairwise_iff_getElem] at hd
  obtain ⟨i, hi, rfl⟩ := List.getElem_of_mem hx
  obtain ⟨j, hj, rfl⟩ := List.getElem_of_mem hy
  rcases Nat.lt_trichotomy i j with k | rfl | k
  ·exact absurd e.symm (hd i j hi hj k)
  ·rfl
  ·exact absurd e (hd j i hj hi k)
 rw [this]; exact ILt_irrefl x
theorem Lst.le {l : List Item} {x y : Item} (h : Lst l x) (hy : ∀ z, Lst l z → z.dot = x.dot → ¬ ILt z x) : y ∈ l → y.dot = x.dot → ¬ ILt y x := fun hy' e => h.2 y hy' e
def putI : List Item → Item → List Item
 | [], x => [x]
 | y :: r, x => if ltI y x then y :: putI r x else x :: y :: r
theorem putI_perm : ∀ (l : List Item) (x : Item), (putI l x).Perm (x :: l)
 | [], x => .refl _
 | y :: r, x => by
  rw [putI]
  split
  ·exact ((putI_perm r x).cons y).trans (.swap ..)
  ·exact .refl _
theorem putI_pw : ∀ {l : List Item} {x : Item}, l.Pairwise ILt → x ∉ l → (putI l x).Pairwise ILt
 | [], x, _, _ => by simp [putI]
 | y :: r, x, h, hx => by
  rw [List.pairwise_cons] at h
  rw [List.mem_cons, not_or] at hx
  rw [putI]
  split
  ·rename_i hyx
   refine List.pairwise_cons.2 ⟨fun z hz => ?_, putI_pw h.2 hx.2⟩
   rcases List.mem_cons.1 ((putI_perm r x).mem_iff.1 hz) with rfl | hz
   ·exact of_decide_eq_true hyx
   ·exact h.1 z hz
  ·rename_i hyx
   have hyx : ¬ ILt y x := fun k => hyx (decide_eq_true k)
   have : ILt x y := by
    rcases ILt_tri x y with k | k | k
    ·exact k
    ·exact absurd k hx.1
    ·exact absurd k hyx
   refine List.pairwise_cons.2 ⟨fun z hz => ?_, List.pairwise_cons.2 h⟩
   rcases List.mem_cons.1 hz with rfl | hz
   ·exact this
   ·exact ILt_trans this (h.1 z hz)
/-- Is the i-th the first of its dot? -/
def firstAt (l : List Item) (i : Nat) (x : Item) : Prop := ∀ (k : Nat) (y : Item), l[k]? = some y → y.dot = x.dot → ¬ ILt y x ∧ ¬ (y = x ∧ k < i)
theorem first_lst {l : List Item} {i : Nat} {x : Item} (h : l[i]? = some x) (hf : firstAt l i x) : Lst l x :=
 ⟨List.mem_of_getElem? h, fun y hy e => by
  obtain ⟨k, hk⟩ := List.getElem?_of_mem hy
  exact (hf k y hk e).1⟩
theorem ex_first {l : List Item} {x : Item} (h : Lst l x) : ∃ i, l[i]? = some x ∧ firstAt l i x := by
 obtain ⟨i, hi⟩ := List.getElem?_of_mem h.1
 induction i using Nat.strongRecOn with
 | _ i ih =>
  by_cases hk : ∃ k, k < i ∧ l[k]? = some x
  ·obtain ⟨k, hk, h2⟩ := hk
   exact ih k hk h2
  ·refine ⟨i, hi, fun k y hy e => ⟨h.2 y (List.mem_of_getElem? hy) e, fun ⟨e2, e3⟩ => hk ⟨k, e3, e2 ▸ hy⟩⟩⟩
theorem first_one {l : List Item} {i j : Nat} {x : Item} (hi : l[i]? = some x) (hj : l[j]? = some x) (h1 : firstAt l i x) (h2 : firstAt l j x) : i = j := by
 rcases Nat.lt_trichotomy i j with h | h | h
 ·exact absurd ⟨rfl, h⟩ (h2 i x hi rfl).2
 ·exact h
 ·exact absurd ⟨rfl, h⟩ (h1 j x hj rfl).2
/-- What is laid after i looks. -/
def Laid (l out : List Item) (i : Nat) : Prop := out.Pairwise ILt ∧ ∀ x, x ∈ out ↔ ∃ j, j < i ∧ l[j]? = some x ∧ firstAt l j x
theorem laid_zero (l : List Item) : Laid l [] 0 := ⟨.nil, fun x => by simp⟩
theorem laid_skip {l out : List Item} {i : Nat} {x : Item} (h : Laid l out i) (hx : l[i]? = some x) (hf : ¬ firstAt l i x) : Laid l out (i + 1) := by
 refine ⟨h.1, fun y => ?_⟩
 rw [h.2]
 refine ⟨fun ⟨j, h1, h2, h3⟩ => ⟨j, by omega, h2, h3⟩, fun ⟨j, h1, h2, h3⟩ => ⟨j, ?_, h2, h3⟩⟩
 rcases Nat.lt_or_ge j i with k | k
 ·exact k
 ·have : j = i := by omega
  subst this
  rw [hx] at h2
  exact absurd (Option.some.inj h2 ▸ h3) hf
theorem laid_put {l out : List Item} {i : Nat} {x : Item} (h : Laid l out i) (hx : l[i]? = some x) (hf : firstAt l i x) : Laid l (putI out x) (i + 1) := by
 have hn : x ∉ out := fun k => by
  obtain ⟨j, h1, h2, h3⟩ := (h.2 x).1 k
  have := first_one h2 hx h3 hf
  omega
 refine ⟨putI_pw h.1 hn, fun y => ?_⟩
 rw [(putI_perm out x).mem_iff, List.mem_cons, h.2]
 constructor
 ·rintro (rfl | ⟨j, h1, h2, h3⟩)
  ·exact ⟨i, by omega, hx, hf⟩
  ·exact ⟨j, by omega, h2, h3⟩
 ·rintro ⟨j, h1, h2, h3⟩
  rcases Nat.lt_or_ge j i with k | k
  ·exact .inr ⟨j, k, h2, h3⟩
  ·have : j = i := by omega
   subst this
   rw [hx] at h2
   exact .inl (Option.some.inj h2).symm
theorem laid_end {l out : List Item} (h : Laid l out l.length) : out = norm l := by
 refine (norm_is h.1 fun x => ?_).symm
 rw [h.2]
 exact ⟨fun ⟨j, _, h2, h3⟩ => first_lst h2 h3, fun hx => by
  obtain ⟨i, h1, h2⟩ := ex_first hx
  exact ⟨i, (List.getElem?_eq_some_iff.1 h1).1, h1, h2⟩⟩
theorem putI_at : ∀ (l : List Item) (x : Item) (i : Nat), i ≤ l.length → (∀ (j : Nat) (h : j < l.length), j < i → ltI l[j] x = true) → (∀ h : i < l.length, ltI l[i] x = false) → putI l x = l.take i ++ x :: l.drop i
 | [], x, i, hi, _, _ => by
  have : i = 0 := by simpa using hi
  subst this; rfl
 | y :: r, x, 0, _, _, h => by
  have := h (by simp)
  rw [putI, if_neg (by simpa using this)]; rfl
 | y :: r, x, i + 1, hi, h1, h2 => by
  have h0 := h1 0 (by simp) (by omega)
  rw [putI, if_pos (by simpa using h0), putI_at r x i (by simpa using hi) (fun j hj hji => h1 (j + 1) (by simpa using hj) (by omega)) (fun h => h2 (by simpa using h))]
  rfl
end Go.Bv
namespace Go.Bv
open Go Go.Proofs
def without (l : List Item) (D : List Dot) : List Item := l.filter fun x => decide (x.dot ∉ D)
end Go.Bv
namespace Go.Bv
set_option linter.unusedSimpArgs false
set_option linter.unusedVariables false
set_option maxHeartbeats 4000000
open Go Go.Proofs
/-- slices.Clone of a vector. -/
theorem cloneV_walk (l : List Int) (hl : l.length ≤ 2 ^ 40) : ACalls Tryz.prog Nm.slices_Clone_api_Vec_int [ints l] [] (.own 0 0 l.length) [.row .vrow .leaf (l.map i64)] := by
 refine ACalls_of tab noDr_snd Nm.slices_Clone_api_Vec_int_h rfl (by kernel_rfl) (Nat.le_of_ble_eq_true rfl) rfl ?_
 refine NN.mk (fun h => ?_) ?_
 ·have : l = [] := by simpa using h
  subst this
  exact NRet.ad [(2, .leaf)] [0] rfl ⟨.refl _, rfl⟩
 ·refine NFz.own ?_
  refine NApp.endA rfl (by simp; omega) ?_
  refine NRet.mk [1] rfl ⟨?_, rfl⟩
  show LeA (.own 0 0 (l.map i64).length) _
  rw [List.length_map]; exact .refl _
theorem vecAt_walk (v : List Int) (n : Int) (hl : v.length ≤ 2 ^ 40) : ACalls Tryz.prog Nm.vec_At [ints v, i64 n] [] (i64 (vatI v n)) [] := by
 refine ACalls_of tab (dr_snd tab mixed) Nm.vec_At_h rfl (by kernel_rfl) (Nat.le_of_ble_eq_true rfl) rfl ?_
 unfold vatI
 by_cases h0 : n < 0
 ·rw [if_pos h0]
  refine ND.yes (by omega) ?_
  exact NRet.mk [] rfl ⟨.refl _, rfl⟩
 ·rw [if_neg h0]
  obtain ⟨j, rfl⟩ : ∃ j : Nat, n = j := ⟨n.toNat, by omega⟩
  rw [Int.toNat_natCast]
  by_cases h1 : j < v.length
  ·rw [vat_in h1]
   refine ND.no (by omega) ?_
   refine ND.no (by (simp only [zLm, zLa, zLr, zLc, zLn, zLt, zLd]; omega)) ?_
   refine NP.mk (by omega) ?_
   refine NG.mapN (by omega) ?_
   exact NRet.mk [] rfl ⟨.refl _, rfl⟩
  ·rw [vat_out (by omega)]
   refine ND.no (by omega) ?_
   refine ND.yes (by (simp only [zLm, zLa, zLr, zLc, zLn, zLt, zLd]; omega)) ?_
   exact NRet.mk [] rfl ⟨.refl _, rfl⟩
theorem vecTrim_walk (v : List Int) (hl : v.length ≤ 2 ^ 40) : ACalls Tryz.prog Nm.vec_Trim [ints v] [] (ints (trim v)) [] := by
 refine ACalls_of tab (dr_snd tab mixed) Nm.vec_Trim_h rfl (by kernel_rfl) (Nat.le_of_ble_eq_true rfl) rfl ?_
 refine NLoop.mk [] [0, 3] (fun m vs H => ∃ n, n ≤ v.length ∧ m = n ∧ trim v = trim (v.take n) ∧ H = [] ∧ vs = [ints v, i64 n]) rfl ?_ ?_
 ·exact Canon.mk [] rfl ⟨v.length, v.length, Nat.le_refl _, rfl, by rw [List.take_length], rfl, by simp [i64, ints]⟩
 ·rintro m vs H ⟨n, hn, rfl, ht, rfl, rfl⟩
  have fin : (m = 0 ∨ ∃ h : m - 1 < v.length, 0 < m ∧ 0 < v[m - 1]) → trim v = (v.take m).map (max · 0) := by
   rintro (rfl | ⟨h, h0, hp⟩)
   ·rw [ht]; rfl
   ·rw [ht, show v.take m = v.take (m - 1) ++ [v[m - 1]] by rw [← List.take_succ_eq_append_getElem h]; congr 1; omega]
    exact trim_snoc_pos _ hp
  refine NB.dec (fun h1 => ?_) (fun h1 => ?_)
  ·have h1' : 0 < m := by omega
   have hlt : m - 1 < v.length := by omega
   refine NW.i64 (by omega) (by omega) (NP.mk (by omega) (NG.mapE (j := m - 1) (by omega) hlt ?_))
   refine NB.dec (fun h2 => ?_) (fun h2 => ?_)
   ·refine NW.i64 (by omega) (by omega) (Canon.mk [] rfl ⟨m - 1, by omega, m - 1, by omega, rfl, ?_, rfl, ?_⟩)
    ·rw [ht, show v.take m = v.take (m - 1) ++ [v[m - 1]] by rw [← List.take_succ_eq_append_getElem hlt]; congr 1; omega]
     exact trim_snoc_np _ h2
    ·show [_, AV.int .i64 ((m : Int) - 1)] = [_, AV.int .i64 ((m - 1 : Nat) : Int)]
     rw [show ((m - 1 : Nat) : Int) = (m : Int) - 1 by omega]; rfl
   ·have hfin := fin (.inr ⟨hlt, h1', by omega⟩)
    have e : (v.map i64).take ((m : Int)).toNat = (v.take m).map i64 := by rw [Int.toNat_natCast, List.map_take]
    have hwl : (v.take m).length ≤ 2 ^ 40 := by simp; omega
    generalize v.take m = w at *
    have hc := cloneV_walk w hwl
    refine NP.mk (by (simp only [zLm, zLa, zLr, zLc, zLn, zLt, zLd]; omega)) ?_
    rw [(e)]
    refine NCall.atA (ACalls.frame (hc) rfl _) ?_
    refine NLoop.mk [] [4, 25, 26] (fun q vs H => ∃ i, i ≤ w.length ∧ q = w.length - i ∧ H = [.row .vrow .leaf ((mx w i).map i64)] ∧ vs = [.own 0 0 w.length, i64 w.length, i64 i]) rfl ?_ ?_
    ·exact Canon.mk [0] rfl ⟨w.length, 0, Nat.zero_le _, rfl, by rw [mx_zero], rfl⟩
    ·rintro q vs H ⟨i, hi, rfl, rfl, rfl⟩
     have hml := mx_len w i
     refine NB.dec (fun h3 => ?_) (fun h3 => ?_)
     ·have hi' : i < w.length := by omega
      refine NP.mk (by (simp only [zLm, zLa, zLr, zLc, zLn, zLt, zLd]; omega)) ?_
      refine NG.mapN (by omega) ?_
      refine NP.mk (by (simp only [zLm, zLa, zLr, zLc, zLn, zLt, zLd]; omega)) ?_
      refine NG.mapN (by omega) ?_
      refine NW.w ?_
      refine Canon.mk [0] rfl ⟨w.length - (i + 1), by omega, i + 1, by omega, rfl, ?_, rfl⟩
      rw [← mx_set hi', List.map_set]
      simp only [Int.toNat_natCast, Nat.zero_add, mx_at hi']
      rfl
     ·have : i = w.length := by omega
      subst this
      refine NRet.mk [] rfl (NFrz.mk ((mx w w.length).map i64) (by simp [mx_len]) (by rw [List.drop_zero, List.take_of_length_le (by simp [mx_len])]) ⟨by rw [hfin, ← mx_full]; exact .refl _, rfl⟩)
  ·have hfin := fin (.inl (by omega))
   have e : (v.map i64).take ((m : Int)).toNat = (v.take m).map i64 := by rw [Int.toNat_natCast, List.map_take]
   have hwl : (v.take m).length ≤ 2 ^ 40 := by simp; omega
   generalize v.take m = w at *
   have hc := cloneV_walk w hwl
   refine NP.mk (by omega) ?_
   rw [(e)]
   refine NCall.atA (ACalls.frame (hc) rfl _) ?_
   refine NLoop.mk [] [4, 25, 26] (fun q vs H => ∃ i, i ≤ w.length ∧ q = w.length - i ∧ H = [.row .vrow .leaf ((mx w i).map i64)] ∧ vs = [.own 0 0 w.length, i64 w.length, i64 i]) rfl ?_ ?_
   ·exact Canon.mk [0] rfl ⟨w.length, 0, Nat.zero_le _, rfl, by rw [mx_zero], rfl⟩
   ·rintro q vs H ⟨i, hi, rfl, rfl, rfl⟩
    have hml := mx_len w i
    refine NB.dec (fun h3 => ?_) (fun h3 => ?_)
    ·have hi' : i < w.length := by omega
     refine NP.mk (by (simp only [zLm, zLa, zLr, zLc, zLn, zLt, zLd]; omega)) ?_
     refine NG.mapN (by omega) ?_
     refine NP.mk (by (simp only [zLm, zLa, zLr, zLc, zLn, zLt, zLd]; omega)) ?_
     refine NG.mapN (by omega) ?_
     refine NW.w ?_
     refine Canon.mk [0] rfl ⟨w.length - (i + 1), by omega, i + 1, by omega, rfl, ?_, rfl⟩
     rw [← mx_set hi', List.map_set]
     simp only [Int.toNat_natCast, Nat.zero_add, mx_at hi']
     rfl
    ·have : i = w.length := by omega
     subst this
     refine NRet.mk [] rfl (NFrz.mk ((mx w w.length).map i64) (by simp [mx_len]) (by rw [List.drop_zero, List.take_of_length_le (by simp [mx_len])]) ⟨by rw [hfin, ← mx_full]; exact .refl _, rfl⟩)
theorem vecHas_walk (v : List Int) (a b c : Int) (hl : v.length ≤ 2 ^ 40) : ACalls Tryz.prog Nm.vec_Has [ints v, .agg [i64 a, i64 b, i64 c]] [] (.bool (decide (1 ≤ b ∧ b ≤ vatI v a))) [] := by
 refine ACalls_of tab (dr_snd tab mixed) Nm.vec_Has_h rfl (by kernel_rfl) (Nat.le_of_ble_eq_true rfl) rfl ?_
 by_cases hk1 : 1 ≤ b
 ·rw [show decide (1 ≤ b ∧ b ≤ vatI v a) = decide (b ≤ vatI v a) by simp [hk1]]
  refine NP.mk (by kernel_rfl) ?_
  apply NDr.rd [0]
  ·intro fH TH
   exact ⟨rfl, rfl⟩
  apply NDr.rd [0]
  ·intro fH TH
   exact ⟨rfl, rfl⟩
  apply NDr.pure
  ·refine ND.yes (by omega) ?_
   exact ⟨rfl, rfl⟩
  refine NDr.w _ ?_
  apply NDr.rd [0]
  ·intro fH TH
   exact ⟨rfl, rfl⟩
  apply NDr.rd [0]
  ·intro fH TH
   exact ⟨rfl, rfl⟩
  refine NDr.w _ ?_
  apply NDr.rd [0]
  ·intro fH TH
   exact ⟨rfl, rfl⟩
  apply NDr.rd [0]
  ·intro fH TH
   exact ⟨rfl, rfl⟩
  apply NDr.pure
  ·refine NCall.call (vecAt_walk v a hl) rfl rfl ?_
   exact ⟨rfl, rfl⟩
  apply NDr.pure
  ·exact NB.det
  refine NDr.w _ ?_
  refine NDr.w _ ?_
  refine NP.mk (by kernel_rfl) ?_
  exact NRet.mk [] rfl ⟨.refl _, rfl⟩
 ·rw [show decide (1 ≤ b ∧ b ≤ vatI v a) = false by simp [hk1]]
  refine NP.mk (by kernel_rfl) ?_
  apply NDr.rd [0]
  ·intro fH TH
   exact ⟨rfl, rfl⟩
  apply NDr.rd [0]
  ·intro fH TH
   exact ⟨rfl, rfl⟩
  apply NDr.pure
  ·refine ND.no (by omega) ?_
   exact ⟨rfl, rfl⟩
  refine NDr.w _ ?_
  refine NDr.w _ ?_
  refine NDr.w _ ?_
  refine NP.mk (by kernel_rfl) ?_
  exact NRet.mk [] rfl ⟨.refl _, rfl⟩
theorem vecWithin_walk (a b : List Int) (ha : a.length ≤ 2 ^ 40) (hb : b.length ≤ 2 ^ 40) : ACalls Tryz.prog Nm.vec_Within [ints a, ints b] [] (.bool (vwithin a b)) [] := by
 refine ACalls_of tab (dr_snd tab mixed) Nm.vec_Within_h rfl (by kernel_rfl) (Nat.le_of_ble_eq_true rfl) rfl ?_
 refine NLoop.mk [] [0, 1, 6, 7, 8] (fun m vs H => ∃ i, i ≤ a.length ∧ m = a.length - i ∧ (∀ j, j < i → vat a j ≤ vat b j) ∧ H = [] ∧ vs = [ints a, ints b, ints a, i64 a.length, i64 i]) rfl ?_ ?_
 ·exact Canon.mk [] rfl ⟨a.length, 0, Nat.zero_le _, rfl, fun j hj => by omega, rfl, by simp [i64, ints]⟩
 ·rintro m vs H ⟨i, hi, rfl, ht, rfl, rfl⟩
  refine NB.dec (fun h1 => ?_) (fun h1 => ?_)
  ·refine NCall.call (vecAt_walk a i ha) rfl rfl ?_
   refine NCall.call (vecAt_walk b i hb) rfl rfl ?_
   have hva : vatI a i = vat a i := by unfold vatI; rw [if_neg (by omega), Int.toNat_natCast]
   have hvb : vatI b i = vat b i := by unfold vatI; rw [if_neg (by omega), Int.toNat_natCast]
   refine NB.dec (fun h2 => ?_) (fun h2 => ?_)
   ·have : vwithin a b = false := by
     cases hq : vwithin a b with
     | false => rfl
     | true => have := (vwithin_iff a b).1 hq i; omega
    rw [this]
    exact NRet.mk [] rfl ⟨.refl _, rfl⟩
   ·refine NW.w ?_
    refine Canon.mk [] rfl ⟨a.length - (i + 1), by omega, i + 1, by omega, rfl, fun j hj => ?_, rfl, rfl⟩
    rcases Nat.lt_or_ge j i with h | h
    ·exact ht j h
    ·rw [show j = i by omega]; omega
  ·have : vwithin a b = true := (vwithin_iff a b).2 fun j => by
    rcases Nat.lt_or_ge j a.length with h | h
    ·exact ht j (by omega)
    ·rw [vat_out h]; exact vat_nonneg b j
   rw [this]
   exact NRet.mk [] rfl ⟨.refl _, rfl⟩
theorem vecWith_walk (v : List Int) (node n : Int) (hl : v.length ≤ 2 ^ 39) (h : 0 ≤ node ∧ node < 8 ∧ 0 ≤ n ∧ n ≤ 1073741824) : ACalls Tryz.prog Nm.vec_With [ints v, i64 node, i64 n] [] (.tup [ints (trim (vset v node.toNat n)), i64 0]) [] := by
 refine ACalls_of tab (dr_snd tab mixed) Nm.vec_With_h rfl (by kernel_rfl) (Nat.le_of_ble_eq_true rfl) rfl ?_
 obtain ⟨j, rfl⟩ : ∃ j : Nat, node = j := ⟨node.toNat, by omega⟩
 refine ND.no (by omega) ?_
 refine ND.no (by omega) ?_
 refine ND.no (by omega) ?_
 refine ND.no (by omega) ?_
 refine NCall.atA (ACalls.frame (cloneV_walk v (by omega)) rfl _) ?_
 refine NLoop.mk [] [1, 2, 8] (fun m vs H => ∃ k, k ≤ j + 1 - v.length ∧ m = (j + 1 - v.length) - k ∧ H = [.row .vrow .leaf ((v ++ List.replicate k 0).map i64)] ∧ vs = [i64 j, i64 n, .own 0 0 (v.length + k)]) rfl ?_ ?_
 ·exact Canon.mk [0] rfl ⟨_, 0, Nat.zero_le _, rfl, by simp, rfl⟩
 ·rintro m vs H ⟨k, hk, rfl, rfl, rfl⟩
  refine NB.dec (fun h1 => ?_) (fun h1 => ?_)
  ·refine NFz.own ?_
   refine NApp.endA (by simp) (by simp; omega) ?_
   refine Canon.mk [1] rfl ⟨j + 1 - v.length - (k + 1), by omega, k + 1, by omega, rfl, ?_, ?_⟩
   ·rw [List.replicate_succ', ← List.append_assoc, List.map_append (l₁ := v ++ List.replicate k 0)]; rfl
   ·have hlen : ∀ z : AV, ((v ++ List.replicate k 0).map i64 ++ [z]).length = v.length + (k + 1) := fun z => by
     simp only [List.length_append, List.length_map, List.length_replicate, List.length_cons, List.length_nil]; omega
    exact congrArg (fun x => [i64 j, i64 n, AV.own 0 0 x]) (hlen _)
  ·have hk' : k = j + 1 - v.length := by omega
   subst hk'
   have hvs : ((v ++ List.replicate (j + 1 - v.length) 0).map i64).set (0 + (j : Int).toNat) (AV.int .i64 n) = (vset v j n).map i64 := by
    rw [vset, List.map_set, Int.toNat_natCast, Nat.zero_add]; rfl
   have hvl : (vset v j n).length = v.length + (j + 1 - v.length) := by simp [vset]
   refine NP.mk (by (simp only [zLm, zLa, zLr, zLc, zLn, zLt, zLd]; omega)) ?_
   refine NG.mapN (by (simp only [zLm, zLa, zLr, zLc, zLn, zLt, zLd]; omega)) ?_
   refine NCall.frzAllN [0] (vecTrim_walk (vset v j n) (by omega)) (.cons (.own (by simp) rfl (by simp) (by simp) (by rw [List.drop_zero, hvs, List.take_of_length_le (by simp; omega)])) .nil) rfl rfl rfl ?_
   exact NRet.mk [] rfl ⟨.refl _, rfl⟩
theorem vecWith_bad (v : List Int) (node n : Int) (h : ¬ (0 ≤ node ∧ node < 8 ∧ 0 ≤ n ∧ n ≤ 1073741824)) : ACalls Tryz.prog Nm.vec_With [ints v, i64 node, i64 n] [] (.tup [ints [], i64 1]) [] := by
 refine ACalls_of tab (dr_snd tab mixed) Nm.vec_With_h rfl (by kernel_rfl) (Nat.le_of_ble_eq_true rfl) rfl ?_
 refine NB.dec (fun hk1 => ?_) (fun hk1 => ?_)
 ·exact NRet.mk [] rfl ⟨by repeat (first | exact LeA.refl _ | exact LeA.nils _ | refine LeA.agg ?_ | refine LeA.tup ?_ | exact LeAs.nil | refine LeAs.cons ?_ ?_), rfl⟩
 refine NB.dec (fun hk2 => ?_) (fun hk2 => ?_)
 ·exact NRet.mk [] rfl ⟨by repeat (first | exact LeA.refl _ | exact LeA.nils _ | refine LeA.agg ?_ | refine LeA.tup ?_ | exact LeAs.nil | refine LeAs.cons ?_ ?_), rfl⟩
 refine NB.dec (fun hk3 => ?_) (fun hk3 => ?_)
 ·exact NRet.mk [] rfl ⟨by repeat (first | exact LeA.refl _ | exact LeA.nils _ | refine LeA.agg ?_ | refine LeA.tup ?_ | exact LeAs.nil | refine LeAs.cons ?_ ?_), rfl⟩
 refine ND.yes (by omega) ?_
 exact NRet.mk [] rfl ⟨by repeat (first | exact LeA.refl _ | exact LeA.nils _ | refine LeA.agg ?_ | refine LeA.tup ?_ | exact LeAs.nil | refine LeAs.cons ?_ ?_), rfl⟩
theorem equal7_walk (a b : List Int) (ha : a.length ≤ 2 ^ 40) : ACalls Tryz.prog Nm.ref07_Equal [ints a, ints b] [] (.bool (decide (a = b))) [] := by
 refine ACalls_of tab (dr_snd tab mixed) Nm.ref07_Equal_h rfl (by kernel_rfl) (Nat.le_of_ble_eq_true rfl) rfl ?_
 refine NB.dec (fun h => ?_) (fun h => ?_)
 ·have hab : a.length = b.length := by simp only [List.length_map] at h; omega
  refine NLoop.mk [] [0, 1, 5] (fun m vs H => ∃ i, i ≤ a.length ∧ m = a.length - i ∧ a.take i = b.take i ∧ H = [] ∧ vs = [ints a, ints b, i64 i]) rfl ?_ ?_
  ·exact Canon.mk [] rfl ⟨a.length, 0, Nat.zero_le _, rfl, rfl, rfl, rfl⟩
  ·rintro m vs H ⟨i, hi, rfl, ht, rfl, rfl⟩
   refine NB.dec (fun h => ?_) (fun h => ?_)
   ·have hi' : i < a.length := by simpa using h
    have hib : i < b.length := by omega
    by_cases hk1 : a[i] = b[i]
    rotate_left
    ·have : a ≠ b := fun e => by subst e; exact hk1 rfl
     rw [decide_eq_false this]
     refine NP.mk (by kernel_rfl) ?_
     refine NDr.w _ ?_
     refine NDr.w _ ?_
     apply NDr.pure
     ·refine NP.mk (by omega) ?_
      refine NG.mapN (by omega) ?_
      exact ⟨rfl, rfl⟩
     refine NDr.w _ ?_
     refine NDr.w _ ?_
     refine NDr.w _ ?_
     apply NDr.pure
     ·refine NP.mk (by omega) ?_
      refine NG.mapN (by omega) ?_
      exact ⟨rfl, rfl⟩
     refine NDr.w _ ?_
     apply NDr.pure
     ·refine ND.no (by omega) ?_
      exact ⟨rfl, rfl⟩
     refine NP.mk (by kernel_rfl) ?_
     exact NRet.mk [] rfl ⟨.refl _, rfl⟩
    ·refine NP.mk (by kernel_rfl) ?_
     refine NDr.w _ ?_
     refine NDr.w _ ?_
     apply NDr.pure
     ·refine NP.mk (by omega) ?_
      refine NG.mapN (by omega) ?_
      exact ⟨rfl, rfl⟩
     refine NDr.w _ ?_
     refine NDr.w _ ?_
     refine NDr.w _ ?_
     apply NDr.pure
     ·refine NP.mk (by omega) ?_
      refine NG.mapN (by omega) ?_
      exact ⟨rfl, rfl⟩
     refine NDr.w _ ?_
     apply NDr.pure
     ·refine ND.yes (by omega) ?_
      exact ⟨rfl, rfl⟩
     refine NP.mk (by kernel_rfl) ?_
     refine NW.w ?_
     refine Canon.mk [] rfl ⟨a.length - (i + 1), by omega, i + 1, by omega, rfl, ?_, rfl, rfl⟩
     rw [List.take_succ_eq_append_getElem hi', List.take_succ_eq_append_getElem hib, ht]
     rw [hk1]
   ·have : i = a.length := by simp only [List.length_map] at h; omega
    subst this
    rw [hab, List.take_length, ← hab, List.take_length] at ht
    rw [decide_eq_true ht]
    exact NRet.mk [] rfl ⟨.refl _, rfl⟩
 ·have hab : a ≠ b := fun e => h (by subst e; rfl)
  rw [decide_eq_false hab]
  exact NRet.mk [] rfl ⟨.refl _, rfl⟩
end Go.Bv
namespace Go.Bv
set_option linter.unusedSimpArgs false
set_option linter.unusedVariables false
set_option maxHeartbeats 4000000
open Go Go.Proofs
theorem copy7_walk (v : List Int) (hl : v.length ≤ 2 ^ 40) : ACalls Tryz.prog Nm.ref07_Copy [ints v] [] (ints v) [] := by
 refine ACalls_of tab (dr_snd tab mixed) Nm.ref07_Copy_h rfl (by kernel_rfl) (Nat.le_of_ble_eq_true rfl) rfl ?_
 refine NFz.own ?_
 refine NApp.endA rfl (by simp; omega) ?_
 exact NRet.mk [] rfl (NFrz.mk (v.map i64) (by simp) (by rw [List.drop_zero, List.take_of_length_le (by simp)]) ⟨.refl _, rfl⟩)
theorem at7_walk (v : List Int) (n : Int) (hl : v.length ≤ 2 ^ 40) : ACalls Tryz.prog Nm.ref07_At [ints v, i64 n] [] (i64 (vatI v n)) [] := by
 refine ACalls_of tab (dr_snd tab mixed) Nm.ref07_At_h rfl (by kernel_rfl) (Nat.le_of_ble_eq_true rfl) rfl ?_
 refine NLoop.mk [] [0, 1, 5] (fun m vs H => ∃ i, i ≤ v.length ∧ m = v.length - i ∧ (∀ j : Nat, j < i → (j : Int) = n → vat v j = 0) ∧ H = [] ∧ vs = [ints v, i64 n, i64 i]) rfl ?_ ?_
 ·exact Canon.mk [] rfl ⟨v.length, 0, Nat.zero_le _, rfl, fun j hj => by omega, rfl, rfl⟩
 ·rintro m vs H ⟨i, hi, rfl, ht, rfl, rfl⟩
  refine NB.dec (fun h1 => ?_) (fun h1 => ?_)
  ·have hi' : i < v.length := by simp only [List.length_map] at h1; omega
   have hvi := vat_in hi'
   skip
   refine NB.dec (fun h2 => ?_) (fun h2 => ?_)
   ·subst h2
    rw [vatI_nat]
    refine NP.mk (by omega) ?_
    refine NG.mapN (by omega) ?_
    refine NB.dec (fun h3 => ?_) (fun h3 => ?_)
    ·rw [hvi, show max v[i] 0 = v[i] by omega]
     refine NP.mk (by omega) ?_
     refine NG.mapN (by omega) ?_
     exact NRet.mk [] rfl ⟨.refl _, rfl⟩
    ·refine NW.w ?_
     exact Canon.mk [] rfl ⟨v.length - (i + 1), by omega, i + 1, by omega, rfl, fun j hj hji => by
      rw [show j = i by omega, hvi]; omega, rfl, rfl⟩
   ·refine NW.w ?_
    exact Canon.mk [] rfl ⟨v.length - (i + 1), by omega, i + 1, by omega, rfl, fun j hj hji => by
     rcases Nat.lt_or_ge j i with h | h
     ·exact ht j h hji
     ·omega, rfl, rfl⟩
  ·have : vatI v n = 0 := by
    unfold vatI
    split
    ·rfl
    ·rcases Nat.lt_or_ge n.toNat v.length with h | h
     ·exact ht n.toNat (by simp only [List.length_map] at h1; omega) (by omega)
     ·exact vat_out h
   rw [this]
   exact NRet.mk [] rfl ⟨.refl _, rfl⟩
theorem trim7_walk (v : List Int) (hl : v.length ≤ 2 ^ 40) : ACalls Tryz.prog Nm.ref07_Trim [ints v] [] (ints (trim v)) [] := by
 refine ACalls_of tab (dr_snd tab mixed) Nm.ref07_Trim_h rfl (by kernel_rfl) (Nat.le_of_ble_eq_true rfl) rfl ?_
 refine NLoop.mk [] [0, 3, 4] (fun m vs H => ∃ (i n : Nat), i ≤ v.length ∧ m = v.length - i ∧ n ≤ i ∧ (∀ j, n ≤ j → j < i → vat v j = 0) ∧ (n = 0 ∨ 0 < vat v (n - 1)) ∧ H = [] ∧ vs = [ints v, i64 ((n : Int) - 1), i64 i]) rfl ?_ ?_
 ·exact Canon.mk [] rfl ⟨v.length, 0, 0, Nat.zero_le _, rfl, Nat.le_refl _, fun j hj hj' => by omega, .inl rfl, rfl, rfl⟩
 ·rintro m vs H ⟨i, n, hi, rfl, hni, hz, hp, rfl, rfl⟩
  refine NB.dec (fun h1 => ?_) (fun h1 => ?_)
  ·have hi' : i < v.length := by simp only [List.length_map] at h1; omega
   have hv := vat_in hi'
   refine NP.mk (by omega) (NG.mapN hi' ?_)
   refine NB.dec (fun h2 => ?_) (fun h2 => ?_)
   ·refine NW.w ?_
    refine Canon.mk [] rfl ⟨v.length - (i + 1), by omega, i + 1, i + 1, by omega, rfl, Nat.le_refl _, fun j hj hj' => by omega, .inr (by rw [Nat.add_sub_cancel]; omega), rfl, ?_⟩
    rw [show (((i + 1 : Nat) : Int) - 1) = (i : Int) by omega]; rfl
   ·refine NW.w ?_
    refine Canon.mk [] rfl ⟨v.length - (i + 1), by omega, i + 1, n, by omega, rfl, by omega, fun j hj hj' => ?_, hp, rfl, rfl⟩
    rcases Nat.lt_or_ge j i with h | h
    ·exact hz j hj h
    ·rw [show j = i by omega, hv]; omega
  ·have hii : i = v.length := by simp only [List.length_map] at h1; omega
   subst hii
   have htr := trim_range (v := v) (n := n) (fun j hj => by
    rcases Nat.lt_or_ge j v.length with h | h
    ·exact hz j hj h
    ·exact vat_out h) hp
   rw [htr]
   refine NLoop.mk [(5, .leaf)] [0, 3, 5, 6] (fun m vs H => ∃ k, k ≤ n ∧ m = n - k ∧ H = [.row .vrow .leaf ((tab0 (vat v) k).map i64)] ∧ vs = [ints v, i64 ((n : Int) - 1), .own 0 0 k, i64 k]) rfl ?_ ?_
   ·exact Canon.mk [0] rfl ⟨n, 0, Nat.zero_le _, rfl, rfl, rfl⟩
   ·rintro q vs H ⟨k, hk, rfl, rfl, rfl⟩
    have htl := tab0_len (vat v) k
    refine NB.dec (fun h2 => ?_) (fun h2 => ?_)
    ·have ha := at7_walk v k hl
     rw [vatI_nat] at ha
     refine NCall.call (ha) rfl rfl ?_
     refine NFz.own ?_
     refine NApp.endA (by simp; omega) (by simp; omega) ?_
     refine NW.w ?_
     refine Canon.mk [1] rfl ⟨n - (k + 1), by omega, k + 1, by omega, rfl, ?_, ?_⟩
     ·rw [tab0_succ, List.map_append]; rfl
     ·have hlen : ∀ z : AV, ((tab0 (vat v) k).map i64 ++ [z]).length = k + 1 := fun z => by simp [htl]
      exact congrArg (fun x => [ints v, i64 ((n : Int) - 1), AV.own 0 0 x, i64 ((k : Int) + 1)]) (hlen _)
    ·have : k = n := by omega
     subst this
     skip
     exact NRet.mk [] rfl (NFrz.mk ((tab0 (vat v) k).map i64) (by simp [htl]) (by rw [List.drop_zero, List.take_of_length_le (by simp [htl])]) ⟨.refl _, rfl⟩)
theorem lay7_walk (a b : List Int) (up : Bool) (ha : a.length ≤ 2 ^ 39) (hb : b.length ≤ 2 ^ 39) : ACalls Tryz.prog Nm.ref07_Lay [ints a, ints b, .bool up] [] (ints (if up then join a b else meet a b)) [] := by
 refine ACalls_of tab (dr_snd tab mixed) Nm.ref07_Lay_h rfl (by kernel_rfl) (Nat.le_of_ble_eq_true rfl) rfl ?_
 cases up
 ·-- down
  refine NLoop.mk [(7, .leaf)] [0, 1, 2, 7, 8] (fun m vs H => ∃ i, i ≤ max a.length b.length ∧ m = max a.length b.length - i ∧ H = [.row .vrow .leaf ((tab0 (fun k => min (vat a k) (vat b k)) i).map i64)] ∧ vs = [ints a, ints b, .bool false, .own 0 0 i, i64 i]) rfl ?_ ?_
  ·exact Canon.mk [0] rfl ⟨_, 0, Nat.zero_le _, rfl, rfl, rfl⟩
  ·rintro q vs H ⟨i, hi, rfl, rfl, rfl⟩
   have htl := tab0_len (fun k => min (vat a k) (vat b k)) i
   have h2 := at7_walk a i (by omega)
   have h3 := at7_walk b i (by omega)
   rw [vatI_nat] at h2 h3
   have hlen : ∀ z : AV, ((tab0 (fun k => min (vat a k) (vat b k)) i).map i64 ++ [z]).length = i + 1 := fun z => by simp [htl]
   have fin : ∀ z : Int, z = min (vat a i) (vat b i) → [Blk.row .vrow .leaf ((tab0 (fun k => min (vat a k) (vat b k)) i).map i64 ++ [.int .i64 z])] = [.row .vrow .leaf ((tab0 (fun k => min (vat a k) (vat b k)) (i + 1)).map i64)] := fun z hz => by
    rw [tab0_succ, List.map_append, hz]; rfl
   by_cases hin : i < max a.length b.length
   ·have body : i < a.length ∨ (¬ i < a.length ∧ i < b.length) := by omega
    rcases body with hA | ⟨hA, hB⟩
    ·refine ND.yes (by (simp only [zLm, zLa, zLr, zLc, zLn, zLt, zLd]; omega)) ?_
     refine NCall.call (h2) rfl rfl ?_
     refine NCall.call (h3) rfl rfl ?_
     refine NB.dec (fun h => ?_) (fun h => ?_)
     ·have hc : vat a i < vat b i := by simpa using h
      refine ND.no (by simp) ?_
      refine NFz.own ?_
      refine NApp.endA (by simp; omega) (by simp; omega) ?_
      refine NW.w ?_
      exact Canon.mk [1] rfl ⟨max a.length b.length - (i + 1), by omega, i + 1, by omega, rfl, fin _ (by omega), congrArg (fun x => [ints a, ints b, .bool false, AV.own 0 0 x, i64 ((i : Int) + 1)]) (hlen _)⟩
     ·have hc : vat b i ≤ vat a i := by simpa using h
      refine ND.yes (by simp) ?_
      refine NFz.own ?_
      refine NApp.endA (by simp; omega) (by simp; omega) ?_
      refine NW.w ?_
      exact Canon.mk [1] rfl ⟨max a.length b.length - (i + 1), by omega, i + 1, by omega, rfl, fin _ (by omega), congrArg (fun x => [ints a, ints b, .bool false, AV.own 0 0 x, i64 ((i : Int) + 1)]) (hlen _)⟩
    ·refine ND.no (by (simp only [zLm, zLa, zLr, zLc, zLn, zLt, zLd]; omega)) ?_
     refine ND.yes (by (simp only [zLm, zLa, zLr, zLc, zLn, zLt, zLd]; omega)) ?_
     refine NCall.call (h2) rfl rfl ?_
     refine NCall.call (h3) rfl rfl ?_
     refine NB.dec (fun h => ?_) (fun h => ?_)
     ·have hc : vat a i < vat b i := by simpa using h
      refine ND.no (by simp) ?_
      refine NFz.own ?_
      refine NApp.endA (by simp; omega) (by simp; omega) ?_
      refine NW.w ?_
      exact Canon.mk [1] rfl ⟨max a.length b.length - (i + 1), by omega, i + 1, by omega, rfl, fin _ (by omega), congrArg (fun x => [ints a, ints b, .bool false, AV.own 0 0 x, i64 ((i : Int) + 1)]) (hlen _)⟩
     ·have hc : vat b i ≤ vat a i := by simpa using h
      refine ND.yes (by simp) ?_
      refine NFz.own ?_
      refine NApp.endA (by simp; omega) (by simp; omega) ?_
      refine NW.w ?_
      exact Canon.mk [1] rfl ⟨max a.length b.length - (i + 1), by omega, i + 1, by omega, rfl, fin _ (by omega), congrArg (fun x => [ints a, ints b, .bool false, AV.own 0 0 x, i64 ((i : Int) + 1)]) (hlen _)⟩

   ·have : i = max a.length b.length := by omega
    refine ND.no (by (simp only [zLm, zLa, zLr, zLc, zLn, zLt, zLd]; omega)) ?_
    refine ND.no (by (simp only [zLm, zLa, zLr, zLc, zLn, zLt, zLd]; omega)) ?_
    refine NCall.frzAllN [0] (trim7_walk (tab0 (fun k => min (vat a k) (vat b k)) i) (by omega)) (.cons (.own (by simp) rfl (by simp) (by simp; omega) (by rw [List.drop_zero, List.take_of_length_le (by simp; omega)])) .nil) rfl rfl rfl ?_
    subst this
    exact NRet.mk [] rfl ⟨.refl _, rfl⟩
 ·-- up
  refine NLoop.mk [(7, .leaf)] [0, 1, 2, 7, 8] (fun m vs H => ∃ i, i ≤ max a.length b.length ∧ m = max a.length b.length - i ∧ H = [.row .vrow .leaf ((tab0 (fun k => max (vat a k) (vat b k)) i).map i64)] ∧ vs = [ints a, ints b, .bool true, .own 0 0 i, i64 i]) rfl ?_ ?_
  ·exact Canon.mk [0] rfl ⟨_, 0, Nat.zero_le _, rfl, rfl, rfl⟩
  ·rintro q vs H ⟨i, hi, rfl, rfl, rfl⟩
   have htl := tab0_len (fun k => max (vat a k) (vat b k)) i
   have h2 := at7_walk a i (by omega)
   have h3 := at7_walk b i (by omega)
   rw [vatI_nat] at h2 h3
   have hlen : ∀ z : AV, ((tab0 (fun k => max (vat a k) (vat b k)) i).map i64 ++ [z]).length = i + 1 := fun z => by simp [htl]
   have fin : ∀ z : Int, z = max (vat a i) (vat b i) → [Blk.row .vrow .leaf ((tab0 (fun k => max (vat a k) (vat b k)) i).map i64 ++ [.int .i64 z])] = [.row .vrow .leaf ((tab0 (fun k => max (vat a k) (vat b k)) (i + 1)).map i64)] := fun z hz => by
    rw [tab0_succ, List.map_append, hz]; rfl
   by_cases hin : i < max a.length b.length
   ·have body : i < a.length ∨ (¬ i < a.length ∧ i < b.length) := by omega
    rcases body with hA | ⟨hA, hB⟩
    ·refine ND.yes (by (simp only [zLm, zLa, zLr, zLc, zLn, zLt, zLd]; omega)) ?_
     refine NCall.call (h2) rfl rfl ?_
     refine NCall.call (h3) rfl rfl ?_
     refine NB.dec (fun h => ?_) (fun h => ?_)
     ·have hc : vat a i < vat b i := by simpa using h
      refine ND.yes (by simp) ?_
      refine NFz.own ?_
      refine NApp.endA (by simp; omega) (by simp; omega) ?_
      refine NW.w ?_
      exact Canon.mk [1] rfl ⟨max a.length b.length - (i + 1), by omega, i + 1, by omega, rfl, fin _ (by omega), congrArg (fun x => [ints a, ints b, .bool true, AV.own 0 0 x, i64 ((i : Int) + 1)]) (hlen _)⟩
     ·have hc : vat b i ≤ vat a i := by simpa using h
      refine ND.no (by simp) ?_
      refine NFz.own ?_
      refine NApp.endA (by simp; omega) (by simp; omega) ?_
      refine NW.w ?_
      exact Canon.mk [1] rfl ⟨max a.length b.length - (i + 1), by omega, i + 1, by omega, rfl, fin _ (by omega), congrArg (fun x => [ints a, ints b, .bool true, AV.own 0 0 x, i64 ((i : Int) + 1)]) (hlen _)⟩
    ·refine ND.no (by (simp only [zLm, zLa, zLr, zLc, zLn, zLt, zLd]; omega)) ?_
     refine ND.yes (by (simp only [zLm, zLa, zLr, zLc, zLn, zLt, zLd]; omega)) ?_
     refine NCall.call (h2) rfl rfl ?_
     refine NCall.call (h3) rfl rfl ?_
     refine NB.dec (fun h => ?_) (fun h => ?_)
     ·have hc : vat a i < vat b i := by simpa using h
      refine ND.yes (by simp) ?_
      refine NFz.own ?_
      refine NApp.endA (by simp; omega) (by simp; omega) ?_
      refine NW.w ?_
      exact Canon.mk [1] rfl ⟨max a.length b.length - (i + 1), by omega, i + 1, by omega, rfl, fin _ (by omega), congrArg (fun x => [ints a, ints b, .bool true, AV.own 0 0 x, i64 ((i : Int) + 1)]) (hlen _)⟩
     ·have hc : vat b i ≤ vat a i := by simpa using h
      refine ND.no (by simp) ?_
      refine NFz.own ?_
      refine NApp.endA (by simp; omega) (by simp; omega) ?_
      refine NW.w ?_
      exact Canon.mk [1] rfl ⟨max a.length b.length - (i + 1), by omega, i + 1, by omega, rfl, fin _ (by omega), congrArg (fun x => [ints a, ints b, .bool true, AV.own 0 0 x, i64 ((i : Int) + 1)]) (hlen _)⟩

   ·have : i = max a.length b.length := by omega
    refine ND.no (by (simp only [zLm, zLa, zLr, zLc, zLn, zLt, zLd]; omega)) ?_
    refine ND.no (by (simp only [zLm, zLa, zLr, zLc, zLn, zLt, zLd]; omega)) ?_
    refine NCall.frzAllN [0] (trim7_walk (tab0 (fun k => max (vat a k) (vat b k)) i) (by omega)) (.cons (.own (by simp) rfl (by simp) (by simp; omega) (by rw [List.drop_zero, List.take_of_length_le (by simp; omega)])) .nil) rfl rfl rfl ?_
    subst this
    exact NRet.mk [] rfl ⟨.refl _, rfl⟩
theorem same7_walk (a b : List Int) (ha : a.length ≤ 2 ^ 39) (hb : b.length ≤ 2 ^ 39) : ACalls Tryz.prog Nm.ref07_Same [ints a, ints b] [] (.bool (decide (trim a = trim b))) [] := by
 refine ACalls_of tab (dr_snd tab mixed) Nm.ref07_Same_h rfl (by kernel_rfl) (Nat.le_of_ble_eq_true rfl) rfl ?_
 refine NLoop.mk [] [0, 1, 5] (fun m vs H => ∃ i, i ≤ max a.length b.length ∧ m = max a.length b.length - i ∧ (∀ j, j < i → vat a j = vat b j) ∧ H = [] ∧ vs = [ints a, ints b, i64 i]) rfl ?_ ?_
 ·exact Canon.mk [] rfl ⟨_, 0, Nat.zero_le _, rfl, fun j hj => by omega, rfl, rfl⟩
 ·rintro q vs H ⟨i, hi, rfl, ht, rfl, rfl⟩
  have h2 := at7_walk a i (by omega)
  have h3 := at7_walk b i (by omega)
  rw [vatI_nat] at h2 h3
  have neq : vat a i ≠ vat b i → decide (trim a = trim b) = false := fun hne => decide_eq_false fun e => hne (by rw [← vat_trim a, ← vat_trim b, e])
  have nxt : vat a i = vat b i → ∀ j, j < i + 1 → vat a j = vat b j := fun he j hj => by
   rcases Nat.lt_or_ge j i with h | h
   ·exact ht j h
   ·rw [show j = i by omega]; exact he
  by_cases hin : i < max a.length b.length
  ·have body : i < a.length ∨ (¬ i < a.length ∧ i < b.length) := by omega
   rcases body with hA | ⟨hA, hB⟩
   ·refine ND.yes (by (simp only [zLm, zLa, zLr, zLc, zLn, zLt, zLd]; omega)) ?_
    refine NCall.call (h2) rfl rfl ?_
    refine NCall.call (h3) rfl rfl ?_
    refine NB.dec (fun hc => ?_) (fun hc => ?_)
    ·refine NW.w ?_
     exact Canon.mk [] rfl ⟨max a.length b.length - (i + 1), by omega, i + 1, by omega, rfl, nxt hc, rfl, rfl⟩
    ·rw [neq hc]
     exact NRet.mk [] rfl ⟨.refl _, rfl⟩
   ·refine ND.no (by (simp only [zLm, zLa, zLr, zLc, zLn, zLt, zLd]; omega)) ?_
    refine ND.yes (by (simp only [zLm, zLa, zLr, zLc, zLn, zLt, zLd]; omega)) ?_
    refine NCall.call (h2) rfl rfl ?_
    refine NCall.call (h3) rfl rfl ?_
    refine NB.dec (fun hc => ?_) (fun hc => ?_)
    ·refine NW.w ?_
     exact Canon.mk [] rfl ⟨max a.length b.length - (i + 1), by omega, i + 1, by omega, rfl, nxt hc, rfl, rfl⟩
    ·rw [neq hc]
     exact NRet.mk [] rfl ⟨.refl _, rfl⟩
  ·have : decide (trim a = trim b) = true := decide_eq_true (trim_ext _ _ fun j => by
    rcases Nat.lt_or_ge j i with h | h
    ·exact ht j h
    ·rw [vat_out (by omega), vat_out (by omega)])
   rw [this]
   refine ND.no (by (simp only [zLm, zLa, zLr, zLc, zLn, zLt, zLd]; omega)) ?_
   refine ND.no (by (simp only [zLm, zLa, zLr, zLc, zLn, zLt, zLd]; omega)) ?_
   exact NRet.mk [] rfl ⟨.refl _, rfl⟩
theorem with7_walk (v : List Int) (node n : Int) (hl : v.length ≤ 2 ^ 39) (h : 0 ≤ node ∧ node < 8 ∧ 0 ≤ n ∧ n ≤ 1073741824) : ACalls Tryz.prog Nm.ref07_With [ints v, i64 node, i64 n] [] (.tup [ints (trim (vset v node.toNat n)), i64 0]) [] := by
 refine ACalls_of tab (dr_snd tab mixed) Nm.ref07_With_h rfl (by kernel_rfl) (Nat.le_of_ble_eq_true rfl) rfl ?_
 obtain ⟨j, rfl⟩ : ∃ j : Nat, node = j := ⟨node.toNat, by omega⟩
 rw [Int.toNat_natCast]
 refine ND.no (by omega) ?_
 refine ND.no (by omega) ?_
 refine ND.no (by omega) ?_
 refine ND.no (by omega) ?_
 refine NLoop.mk [(8, .leaf)] [0, 1, 2, 8, 9] (fun m vs H => ∃ i, i ≤ max v.length (j + 1) ∧ m = max v.length (j + 1) - i ∧ H = [.row .vrow .leaf ((tab0 (fun k => if k = j then n else vat v k) i).map i64)] ∧ vs = [ints v, i64 j, i64 n, .own 0 0 i, i64 i]) rfl ?_ ?_
 ·exact Canon.mk [0] rfl ⟨_, 0, Nat.zero_le _, rfl, rfl, rfl⟩
 ·rintro q vs H ⟨i, hi, rfl, rfl, rfl⟩
  have htl := tab0_len (fun k => if k = j then n else vat v k) i
  have h2 := at7_walk v i (by omega)
  rw [vatI_nat] at h2
  have hlen : ∀ z : AV, ((tab0 (fun k => if k = j then n else vat v k) i).map i64 ++ [z]).length = i + 1 := fun z => by simp [htl]
  have fin : ∀ z : Int, z = (if i = j then n else vat v i) → [Blk.row .vrow .leaf ((tab0 (fun k => if k = j then n else vat v k) i).map i64 ++ [.int .i64 z])] = [.row .vrow .leaf ((tab0 (fun k => if k = j then n else vat v k) (i + 1)).map i64)] := fun z hz => by
   rw [tab0_succ, List.map_append, hz]; rfl
  have finv : ∀ z : AV, [ints v, i64 j, i64 n, AV.own 0 0 ((tab0 (fun k => if k = j then n else vat v k) i).map i64 ++ [z]).length, i64 ((i : Int) + 1)] = [ints v, i64 j, i64 n, AV.own 0 0 (i + 1), i64 ((i : Int) + 1)] := fun z => by rw [hlen z]
  by_cases hin : i < max v.length (j + 1)
  ·have body : i < v.length ∨ (¬ i < v.length ∧ i ≤ j) := by omega
   rcases body with hA | ⟨hA, hB⟩
   ·by_cases he : i = j
    ·refine ND.yes (by (simp only [zLm, zLa, zLr, zLc, zLn, zLt, zLd]; omega)) ?_
     refine ND.yes (by omega) ?_
     refine NFz.own ?_
     refine NApp.endA (by simp; omega) (by simp; omega) ?_
     refine NW.w ?_
     exact Canon.mk [1] rfl ⟨max v.length (j + 1) - (i + 1), by omega, i + 1, by omega, rfl, fin _ (by rw [if_pos he]), finv _⟩
    ·refine ND.yes (by (simp only [zLm, zLa, zLr, zLc, zLn, zLt, zLd]; omega)) ?_
     refine ND.no (by omega) ?_
     refine NCall.call (h2) rfl rfl ?_
     refine NFz.own ?_
     refine NApp.endA (by simp; omega) (by simp; omega) ?_
     refine NW.w ?_
     exact Canon.mk [1] rfl ⟨max v.length (j + 1) - (i + 1), by omega, i + 1, by omega, rfl, fin _ (by rw [if_neg he]), finv _⟩
   ·by_cases he : i = j
    ·refine ND.no (by (simp only [zLm, zLa, zLr, zLc, zLn, zLt, zLd]; omega)) ?_
     refine ND.yes (by omega) ?_
     refine ND.yes (by omega) ?_
     refine NFz.own ?_
     refine NApp.endA (by simp; omega) (by simp; omega) ?_
     refine NW.w ?_
     exact Canon.mk [1] rfl ⟨max v.length (j + 1) - (i + 1), by omega, i + 1, by omega, rfl, fin _ (by rw [if_pos he]), finv _⟩
    ·refine ND.no (by (simp only [zLm, zLa, zLr, zLc, zLn, zLt, zLd]; omega)) ?_
     refine ND.yes (by omega) ?_
     refine ND.no (by omega) ?_
     refine NCall.call (h2) rfl rfl ?_
     refine NFz.own ?_
     refine NApp.endA (by simp; omega) (by simp; omega) ?_
     refine NW.w ?_
     exact Canon.mk [1] rfl ⟨max v.length (j + 1) - (i + 1), by omega, i + 1, by omega, rfl, fin _ (by rw [if_neg he]), finv _⟩
  ·have hiN : i = max v.length (j + 1) := by omega
   have et : trim (tab0 (fun k => if k = j then n else vat v k) i) = trim (vset v j n) := trim_ext _ _ fun k => by
    rw [vat_tab0, vat_vset _ _ _ h.2.2.1]
    have := vat_nonneg v k
    split
    ·split <;> omega
    ·rw [if_neg (by omega), vat_out (by omega)]
   have htr := trim7_walk (tab0 (fun k => if k = j then n else vat v k) i) (by omega)
   rw [et] at htr
   refine ND.no (by (simp only [zLm, zLa, zLr, zLc, zLn, zLt, zLd]; omega)) ?_
   refine ND.no (by omega) ?_
   refine NCall.frzAllN [0] htr (.cons (.own (by simp) rfl (by simp) (by simp; omega) (by rw [List.drop_zero, List.take_of_length_le (by simp; omega)])) .nil) rfl rfl rfl ?_
   exact NRet.mk [] rfl ⟨.refl _, rfl⟩
theorem with7_bad (v : List Int) (node n : Int) (h : ¬ (0 ≤ node ∧ node < 8 ∧ 0 ≤ n ∧ n ≤ 1073741824)) : ACalls Tryz.prog Nm.ref07_With [ints v, i64 node, i64 n] [] (.tup [ints [], i64 1]) [] := by
 refine ACalls_of tab (dr_snd tab mixed) Nm.ref07_With_h rfl (by kernel_rfl) (Nat.le_of_ble_eq_true rfl) rfl ?_
 refine NB.dec (fun hk1 => ?_) (fun hk1 => ?_)
 ·exact NRet.mk [] rfl ⟨by repeat (first | exact LeA.refl _ | exact LeA.nils _ | refine LeA.agg ?_ | refine LeA.tup ?_ | exact LeAs.nil | refine LeAs.cons ?_ ?_), rfl⟩
 refine NB.dec (fun hk2 => ?_) (fun hk2 => ?_)
 ·exact NRet.mk [] rfl ⟨by repeat (first | exact LeA.refl _ | exact LeA.nils _ | refine LeA.agg ?_ | refine LeA.tup ?_ | exact LeAs.nil | refine LeAs.cons ?_ ?_), rfl⟩
 refine NB.dec (fun hk3 => ?_) (fun hk3 => ?_)
 ·exact NRet.mk [] rfl ⟨by repeat (first | exact LeA.refl _ | exact LeA.nils _ | refine LeA.agg ?_ | refine LeA.tup ?_ | exact LeAs.nil | refine LeAs.cons ?_ ?_), rfl⟩
 refine ND.yes (by omega) ?_
 exact NRet.mk [] rfl ⟨by repeat (first | exact LeA.refl _ | exact LeA.nils _ | refine LeA.agg ?_ | refine LeA.tup ?_ | exact LeAs.nil | refine LeAs.cons ?_ ?_), rfl⟩
theorem within7_walk (a b : List Int) (ha : a.length ≤ 2 ^ 38) (hb : b.length ≤ 2 ^ 38) : ACalls Tryz.prog Nm.ref07_Within [ints a, ints b] [] (.bool (vwithin a b)) [] := by
 refine ACalls_of tab (dr_snd tab mixed) Nm.ref07_Within_h rfl (by kernel_rfl) (Nat.le_of_ble_eq_true rfl) rfl ?_
 have hl := join_len a b
 have e : decide (trim (join a b) = trim b) = vwithin a b := by
  rw [Bool.eq_iff_iff, vwithin_iff, decide_eq_true_eq]
  refine ⟨fun h i => ?_, fun h => trim_ext _ _ fun i => ?_⟩
  ·have e1 : vat (trim (join a b)) i = vat (trim b) i := by rw [h]
   rw [vat_trim, vat_trim, vat_join] at e1; omega
  ·rw [vat_join]; have := h i; omega
 have h1 := lay7_walk a b true (by omega) (by omega)
 have h2 := same7_walk (join a b) b (by omega) (by omega)
 rw [if_pos rfl] at h1
 rw [e] at h2
 refine NCall.call (h1) rfl rfl ?_
 refine NCall.call (h2) rfl rfl ?_
 exact NRet.mk [] rfl ⟨.refl _, rfl⟩
end Go.Bv
namespace Go.Bv
set_option linter.unusedSimpArgs false
set_option linter.unusedVariables false
set_option maxHeartbeats 4000000
open Go Go.Proofs
def ready (v : List Int) (t : Txn) : Bool := decide (1 ≤ t.seq) && (decide (t.seq - 1 = vatI v t.node) && vwithin t.deps v)
def next (v : List Int) (t : Txn) : List Int := if 0 ≤ t.node ∧ t.node < 8 ∧ 0 ≤ t.seq ∧ t.seq ≤ 1073741824 then trim (vset v t.node.toNat t.seq) else trim v
theorem ready_walk (v : List Int) (t : Txn) (hv : v.length ≤ 2 ^ 38) (ht : t.deps.length ≤ 2 ^ 38) (hs : okInt t.seq) : ACalls Tryz.prog Nm.order_Ready [ints v, txnA t] [] (.bool (ready v t)) [] := by
 refine ACalls_of tab (dr_snd tab mixed) Nm.order_Ready_h rfl (by kernel_rfl) (Nat.le_of_ble_eq_true rfl) rfl ?_
 unfold ready
 have h1 := vecAt_walk v t.node (by omega)
 have h2 := vecWithin_walk t.deps v (by omega) (by omega)
 obtain ⟨hs1, hs2⟩ := hs
 by_cases h0 : 1 ≤ t.seq
 ·rw [decide_eq_true h0, Bool.true_and]
  by_cases h3 : t.seq - 1 = vatI v t.node
  ·rw [decide_eq_true h3, Bool.true_and]
   refine NP.mk (by kernel_rfl) ?_
   apply NDr.rd [0]
   ·intro fH TH
    exact ⟨rfl, rfl⟩
   apply NDr.rd [0]
   ·intro fH TH
    exact ⟨rfl, rfl⟩
   apply NDr.pure
   ·refine ND.yes (by omega) ?_
    exact ⟨rfl, rfl⟩
   refine NDr.w _ ?_
   apply NDr.rd [0]
   ·intro fH TH
    exact ⟨rfl, rfl⟩
   apply NDr.rd [0]
   ·intro fH TH
    exact ⟨rfl, rfl⟩
   apply NDr.pure
   ·refine NW.w ?_
    exact ⟨rfl, rfl⟩
   refine NDr.w _ ?_
   apply NDr.rd [0]
   ·intro fH TH
    exact ⟨rfl, rfl⟩
   apply NDr.rd [0]
   ·intro fH TH
    exact ⟨rfl, rfl⟩
   apply NDr.pure
   ·refine NCall.call (h1) rfl rfl ?_
    exact ⟨rfl, rfl⟩
   apply NDr.pure
   ·refine ND.yes (by omega) ?_
    exact ⟨rfl, rfl⟩
   refine NDr.w _ ?_
   refine NDr.w _ ?_
   apply NDr.rd [0]
   ·intro fH TH
    exact ⟨rfl, rfl⟩
   apply NDr.rd [0]
   ·intro fH TH
    exact ⟨rfl, rfl⟩
   refine NDr.w _ ?_
   apply NDr.pure
   ·refine NCall.call (h2) rfl rfl ?_
    exact ⟨rfl, rfl⟩
   refine NDr.w _ ?_
   refine NDr.w _ ?_
   refine NP.mk (by kernel_rfl) ?_
   exact NRet.mk [] rfl ⟨.refl _, rfl⟩
  ·rw [decide_eq_false h3, Bool.false_and]
   refine NP.mk (by kernel_rfl) ?_
   apply NDr.rd [0]
   ·intro fH TH
    exact ⟨rfl, rfl⟩
   apply NDr.rd [0]
   ·intro fH TH
    exact ⟨rfl, rfl⟩
   apply NDr.pure
   ·refine ND.yes (by omega) ?_
    exact ⟨rfl, rfl⟩
   refine NDr.w _ ?_
   apply NDr.rd [0]
   ·intro fH TH
    exact ⟨rfl, rfl⟩
   apply NDr.rd [0]
   ·intro fH TH
    exact ⟨rfl, rfl⟩
   apply NDr.pure
   ·refine NW.w ?_
    exact ⟨rfl, rfl⟩
   refine NDr.w _ ?_
   apply NDr.rd [0]
   ·intro fH TH
    exact ⟨rfl, rfl⟩
   apply NDr.rd [0]
   ·intro fH TH
    exact ⟨rfl, rfl⟩
   apply NDr.pure
   ·refine NCall.call (h1) rfl rfl ?_
    exact ⟨rfl, rfl⟩
   apply NDr.pure
   ·refine ND.no (by omega) ?_
    exact ⟨rfl, rfl⟩
   refine NDr.w _ ?_
   refine NDr.w _ ?_
   refine NDr.w _ ?_
   refine NDr.w _ ?_
   refine NP.mk (by kernel_rfl) ?_
   exact NRet.mk [] rfl ⟨.refl _, rfl⟩
 ·rw [decide_eq_false h0, Bool.false_and]
  refine NP.mk (by kernel_rfl) ?_
  apply NDr.rd [0]
  ·intro fH TH
   exact ⟨rfl, rfl⟩
  apply NDr.rd [0]
  ·intro fH TH
   exact ⟨rfl, rfl⟩
  apply NDr.pure
  ·refine ND.no (by omega) ?_
   exact ⟨rfl, rfl⟩
  refine NDr.w _ ?_
  refine NDr.w _ ?_
  refine NDr.w _ ?_
  refine NDr.w _ ?_
  refine NDr.w _ ?_
  refine NP.mk (by kernel_rfl) ?_
  exact NRet.mk [] rfl ⟨.refl _, rfl⟩
theorem dot_walk (t : Txn) : ACalls Tryz.prog Nm.txn_Dot [txnA t] [] (.agg [i64 t.node, i64 t.seq, i64 0]) [] := by
 refine ACalls_of tab (dr_snd tab mixed) Nm.txn_Dot_h rfl (by kernel_rfl) (Nat.le_of_ble_eq_true rfl) rfl ?_
 exact NRet.mk [] rfl ⟨.refl _, rfl⟩
theorem next_walk (v : List Int) (t : Txn) (hv : v.length ≤ 2 ^ 39) : ACalls Tryz.prog Nm.order_Next [ints v, txnA t] [] (ints (next v t)) [] := by
 refine ACalls_of tab (dr_snd tab mixed) Nm.order_Next_h rfl (by kernel_rfl) (Nat.le_of_ble_eq_true rfl) rfl ?_
 unfold next
 by_cases h : 0 ≤ t.node ∧ t.node < 8 ∧ 0 ≤ t.seq ∧ t.seq ≤ 1073741824
 ·rw [if_pos h]
  refine NCall.call (dot_walk t) rfl rfl ?_
  refine NCall.call (vecWith_walk v t.node t.seq hv h) rfl rfl ?_
  refine ND.yes (by omega) ?_
  exact NRet.mk [] rfl ⟨.refl _, rfl⟩
 ·rw [if_neg h]
  refine NCall.call (dot_walk t) rfl rfl ?_
  refine NCall.call (vecWith_bad v t.node t.seq h) rfl rfl ?_
  refine ND.no (by omega) ?_
  refine NCall.call (vecTrim_walk v (by omega)) rfl rfl ?_
  exact NRet.mk [] rfl ⟨.refl _, rfl⟩
theorem ready14_walk (v : List Int) (t : Txn) (hv : v.length ≤ 2 ^ 38) (ht : t.deps.length ≤ 2 ^ 38) (hs : okInt t.seq) : ACalls Tryz.prog Nm.ref14_Ready [ints v, txnA t] [] (.bool (ready v t)) [] := by
 refine ACalls_of tab (dr_snd tab mixed) Nm.ref14_Ready_h rfl (by kernel_rfl) (Nat.le_of_ble_eq_true rfl) rfl ?_
 unfold ready
 have h1 := at7_walk v t.node (by omega)
 have h2 := within7_walk t.deps v (by omega) (by omega)
 obtain ⟨hs1, hs2⟩ := hs
 by_cases h0 : 1 ≤ t.seq
 ·rw [decide_eq_true h0, Bool.true_and]
  by_cases h3 : t.seq - 1 = vatI v t.node
  ·rw [decide_eq_true h3, Bool.true_and]
   refine NP.mk (by kernel_rfl) ?_
   apply NDr.rd [0]
   ·intro fH TH
    exact ⟨rfl, rfl⟩
   apply NDr.rd [0]
   ·intro fH TH
    exact ⟨rfl, rfl⟩
   apply NDr.pure
   ·refine ND.yes (by omega) ?_
    exact ⟨rfl, rfl⟩
   refine NDr.w _ ?_
   refine NDr.w _ ?_
   apply NDr.rd [0]
   ·intro fH TH
    exact ⟨rfl, rfl⟩
   apply NDr.rd [0]
   ·intro fH TH
    exact ⟨rfl, rfl⟩
   apply NDr.pure
   ·refine NCall.call (h1) rfl rfl ?_
    exact ⟨rfl, rfl⟩
   apply NDr.rd [0]
   ·intro fH TH
    exact ⟨rfl, rfl⟩
   apply NDr.rd [0]
   ·intro fH TH
    exact ⟨rfl, rfl⟩
   apply NDr.pure
   ·refine NW.w ?_
    exact ⟨rfl, rfl⟩
   apply NDr.pure
   ·refine ND.yes (by omega) ?_
    exact ⟨rfl, rfl⟩
   refine NDr.w _ ?_
   refine NDr.w _ ?_
   apply NDr.rd [0]
   ·intro fH TH
    exact ⟨rfl, rfl⟩
   apply NDr.rd [0]
   ·intro fH TH
    exact ⟨rfl, rfl⟩
   refine NDr.w _ ?_
   apply NDr.pure
   ·refine NCall.call (h2) rfl rfl ?_
    exact ⟨rfl, rfl⟩
   refine NDr.w _ ?_
   refine NDr.w _ ?_
   refine NP.mk (by kernel_rfl) ?_
   exact NRet.mk [] rfl ⟨.refl _, rfl⟩
  ·rw [decide_eq_false h3, Bool.false_and]
   refine NP.mk (by kernel_rfl) ?_
   apply NDr.rd [0]
   ·intro fH TH
    exact ⟨rfl, rfl⟩
   apply NDr.rd [0]
   ·intro fH TH
    exact ⟨rfl, rfl⟩
   apply NDr.pure
   ·refine ND.yes (by omega) ?_
    exact ⟨rfl, rfl⟩
   refine NDr.w _ ?_
   refine NDr.w _ ?_
   apply NDr.rd [0]
   ·intro fH TH
    exact ⟨rfl, rfl⟩
   apply NDr.rd [0]
   ·intro fH TH
    exact ⟨rfl, rfl⟩
   apply NDr.pure
   ·refine NCall.call (h1) rfl rfl ?_
    exact ⟨rfl, rfl⟩
   apply NDr.rd [0]
   ·intro fH TH
    exact ⟨rfl, rfl⟩
   apply NDr.rd [0]
   ·intro fH TH
    exact ⟨rfl, rfl⟩
   apply NDr.pure
   ·refine NW.w ?_
    exact ⟨rfl, rfl⟩
   apply NDr.pure
   ·refine ND.no (by omega) ?_
    exact ⟨rfl, rfl⟩
   refine NDr.w _ ?_
   refine NDr.w _ ?_
   refine NDr.w _ ?_
   refine NDr.w _ ?_
   refine NP.mk (by kernel_rfl) ?_
   exact NRet.mk [] rfl ⟨.refl _, rfl⟩
 ·rw [decide_eq_false h0, Bool.false_and]
  refine NP.mk (by kernel_rfl) ?_
  apply NDr.rd [0]
  ·intro fH TH
   exact ⟨rfl, rfl⟩
  apply NDr.rd [0]
  ·intro fH TH
   exact ⟨rfl, rfl⟩
  apply NDr.pure
  ·refine ND.no (by omega) ?_
   exact ⟨rfl, rfl⟩
  refine NDr.w _ ?_
  refine NDr.w _ ?_
  refine NDr.w _ ?_
  refine NDr.w _ ?_
  refine NDr.w _ ?_
  refine NP.mk (by kernel_rfl) ?_
  exact NRet.mk [] rfl ⟨.refl _, rfl⟩
theorem next14_walk (v : List Int) (t : Txn) (hv : v.length ≤ 2 ^ 39) : ACalls Tryz.prog Nm.ref14_Next [ints v, txnA t] [] (ints (next v t)) [] := by
 refine ACalls_of tab (dr_snd tab mixed) Nm.ref14_Next_h rfl (by kernel_rfl) (Nat.le_of_ble_eq_true rfl) rfl ?_
 unfold next
 by_cases h : 0 ≤ t.node ∧ t.node < 8 ∧ 0 ≤ t.seq ∧ t.seq ≤ 1073741824
 ·rw [if_pos h]
  refine NCall.call (with7_walk v t.node t.seq hv h) rfl rfl ?_
  refine ND.yes (by omega) ?_
  exact NRet.mk [] rfl ⟨.refl _, rfl⟩
 ·rw [if_neg h]
  refine NCall.call (with7_bad v t.node t.seq h) rfl rfl ?_
  refine ND.no (by omega) ?_
  refine NCall.call (trim7_walk v (by omega)) rfl rfl ?_
  exact NRet.mk [] rfl ⟨.refl _, rfl⟩
/-- slices.Clone of transactions. -/
theorem cloneT_walk (es : List AV) (hl : es.length ≤ 2 ^ 40) : ACalls Tryz.prog Nm.slices_Clone_api_Txn_api_Txn [.list (.agg 4) es] [] (.own 0 0 es.length) [.row .vrow (.agg 4) es] := by
 refine ACalls_of tab (dr_snd tab mixed) Nm.slices_Clone_api_Txn_api_Txn_h rfl (by kernel_rfl) (Nat.le_of_ble_eq_true rfl) rfl ?_
 refine NN.mk (fun h => ?_) ?_
 ·subst h
  exact NRet.ad [(2, .agg 4)] [0] rfl ⟨.refl _, rfl⟩
 ·refine NFz.own ?_
  refine NApp.endA rfl (by simp; omega) ?_
  exact NRet.mk [1] rfl ⟨.refl _, rfl⟩
def ixI {α : Type} (p : α → Bool) (l : List α) : Int := match l.findIdx? p with
 | some i => i
 | none => -1
theorem find_step {α : Type} {p : α → Bool} {l : List α} {i : Nat} (h : i < l.length) (ht : ∀ x ∈ l.take i, p x = false) : (p l[i] = true → ixI p l = i) ∧ (p l[i] = false → ∀ x ∈ l.take (i + 1), p x = false) := by
 refine ⟨fun hp => ?_, fun hp x hx => ?_⟩
 ·have : l.findIdx? p = some i := by
   rw [List.findIdx?_eq_some_iff_getElem]
   refine ⟨h, hp, fun j hj => ?_⟩
   have := ht l[j] (List.mem_take_iff_getElem.2 ⟨j, by omega, rfl⟩)
   simp [this]
  unfold ixI; rw [this]
 ·rw [List.take_succ_eq_append_getElem h] at hx
  rcases List.mem_append.1 hx with hx | hx
  ·exact ht x hx
  ·rw [List.mem_singleton.1 hx]; exact hp
theorem find_none {α : Type} {p : α → Bool} {l : List α} (h : ∀ x ∈ l, p x = false) : ixI p l = -1 := by
 have : l.findIdx? p = none := by rw [List.findIdx?_eq_none_iff]; exact h
 unfold ixI; rw [this]
end Go.Bv
namespace Go.Bv
open Go Go.Proofs
/-- May a transaction's number stand in a vector? -/
def okN (t : Txn) : Prop := 0 ≤ t.node ∧ t.node < 8 ∧ 0 ≤ t.seq ∧ t.seq ≤ 1073741824
instance (t : Txn) : Decidable (okN t) := by unfold okN; infer_instance
def takeN : Nat → List Int → List Txn → List Txn × List Int
 | 0, v, _ => ([], v)
 | n + 1, v, l => match l.find? (ready v) with
  | none => ([], v)
  | some t => (t :: (takeN n (next v t) (l.eraseP (ready v))).1, (takeN n (next v t) (l.eraseP (ready v))).2)
def takeT (v : List Int) (l : List Txn) : List Txn × List Int := takeN l.length v l
def chain : List Int → List Txn → Bool
 | _, [] => true
 | v, t :: r => ready v t && chain (next v t) r
def nexts (v : List Int) (l : List Txn) : List Int := l.foldl next v
def dotOf (t : Txn) : Int × Int := (t.node, t.seq)
theorem ready_iff (v : List Int) (t : Txn) : ready v t = true ↔ 1 ≤ t.seq ∧ t.seq - 1 = vatI v t.node ∧ ∀ i, vat t.deps i ≤ vat v i := by
 unfold ready
 rw [Bool.and_eq_true, Bool.and_eq_true, decide_eq_true_eq, decide_eq_true_eq, vwithin_iff]
theorem next_ok {v : List Int} {t : Txn} (h : okN t) : next v t = trim (vset v t.node.toNat t.seq) := by
 unfold okN at h; unfold next; rw [if_pos h]
theorem next_bad {v : List Int} {t : Txn} (h : ¬ okN t) : next v t = trim v := by
 unfold okN at h; unfold next; rw [if_neg h]
theorem vat_next (v : List Int) (t : Txn) (i : Nat) : vat (next v t) i = if okN t ∧ i = t.node.toNat then t.seq else vat v i := by
 by_cases h : okN t
 ·rw [next_ok h, vat_trim, vat_vset _ _ _ h.2.2.1]
  simp [h]
 ·rw [next_bad h, vat_trim]
  simp [h]
theorem next_mono {v : List Int} {t : Txn} (h : ready v t = true) (i : Nat) : vat v i ≤ vat (next v t) i := by
 rw [vat_next]
 split
 ·rename_i hc
  obtain ⟨ho, rfl⟩ := hc
  have := ((ready_iff v t).1 h).2.1
  unfold vatI at this
  rw [if_neg (by have := ho.1; omega)] at this
  omega
 ·exact Int.le_refl _
theorem vatI_mono {v w : List Int} (h : ∀ i, vat v i ≤ vat w i) (n : Int) : vatI v n ≤ vatI w n := by
 unfold vatI; split
 ·exact Int.le_refl _
 ·exact h _
theorem nexts_nil (v : List Int) : nexts v [] = v := rfl
theorem nexts_cons (v : List Int) (t : Txn) (r : List Txn) : nexts v (t :: r) = nexts (next v t) r := rfl
theorem nexts_snoc (v : List Int) (l : List Txn) (t : Txn) : nexts v (l ++ [t]) = next (nexts v l) t := by simp [nexts]
theorem chain_cons (v : List Int) (t : Txn) (r : List Txn) : chain v (t :: r) = true ↔ ready v t = true ∧ chain (next v t) r = true := by
 show (ready v t && chain (next v t) r) = true ↔ _
 rw [Bool.and_eq_true]
theorem nexts_mono : ∀ {l : List Txn} {v : List Int}, chain v l = true → ∀ i, vat v i ≤ vat (nexts v l) i
 | [], _, _, _ => Int.le_refl _
 | t :: r, v, h, i => by
  obtain ⟨h1, h2⟩ := (chain_cons v t r).1 h
  exact Int.le_trans (next_mono h1 i) (nexts_mono h2 i)
theorem takeN_chain : ∀ (n : Nat) (v : List Int) (l : List Txn), chain v (takeN n v l).1 = true ∧ (takeN n v l).2 = nexts v (takeN n v l).1
 | 0, _, _ => ⟨rfl, rfl⟩
 | n + 1, v, l => by
  unfold takeN
  split
  ·exact ⟨rfl, rfl⟩
  ·rename_i t ht
   obtain ⟨h1, h2⟩ := takeN_chain n (next v t) (l.eraseP (ready v))
   exact ⟨(chain_cons _ _ _).2 ⟨List.find?_some ht, h1⟩, h2⟩
theorem erase_perm {p : Txn → Bool} : ∀ {l : List Txn} {t : Txn}, l.find? p = some t → l.Perm (t :: l.eraseP p)
 | [], _, h => by simp at h
 | x :: r, t, h => by
  rw [List.find?_cons] at h
  rw [List.eraseP_cons]
  cases hx : p x with
  | true =>
   rw [hx] at h
   simp only [Option.some.injEq] at h
   subst h
   exact .refl _
  | false =>
   rw [hx] at h
   exact ((erase_perm h).cons x).trans (.swap ..)
theorem takeN_rest : ∀ (n : Nat) (v : List Int) (l : List Txn), l.length ≤ n → ∃ r, l.Perm ((takeN n v l).1 ++ r) ∧ ∀ t ∈ r, ready (takeN n v l).2 t = false
 | 0, v, l, h => by
  have : l = [] := List.length_eq_zero_iff.1 (by omega)
  subst this
  exact ⟨[], .refl _, by simp⟩
 | n + 1, v, l, h => by
  unfold takeN
  split
  ·rename_i hn
   exact ⟨l, .refl _, fun t ht => by simpa using List.find?_eq_none.1 hn t ht⟩
  ·rename_i t ht
   have hp := erase_perm ht
   obtain ⟨r, h1, h2⟩ := takeN_rest n (next v t) (l.eraseP (ready v)) (by
    have := hp.length_eq; simp only [List.length_cons] at this; omega)
   exact ⟨r, hp.trans (h1.cons t), h2⟩
theorem takeT_chain (v : List Int) (l : List Txn) : chain v (takeT v l).1 = true := (takeN_chain _ v l).1
theorem takeT_nexts (v : List Int) (l : List Txn) : (takeT v l).2 = nexts v (takeT v l).1 := (takeN_chain _ v l).2
theorem takeT_rest (v : List Int) (l : List Txn) : ∃ r, l.Perm ((takeT v l).1 ++ r) ∧ ∀ t ∈ r, ready (takeT v l).2 t = false := takeN_rest _ v l (Nat.le_refl _)
theorem takeT_mem {v : List Int} {l : List Txn} {t : Txn} (h : t ∈ (takeT v l).1) : t ∈ l := by
 obtain ⟨r, hp, _⟩ := takeT_rest v l
 exact hp.mem_iff.2 (List.mem_append_left _ h)
theorem takeN_of_chain : ∀ (a : List Txn) (v : List Int), chain v a = true → takeN a.length v a = (a, nexts v a)
 | [], _, _ => rfl
 | t :: r, v, h => by
  obtain ⟨h1, h2⟩ := (chain_cons v t r).1 h
  show takeN (r.length + 1) v (t :: r) = _
  unfold takeN
  rw [List.find?_cons, h1]
  simp only
  rw [List.eraseP_cons, h1]
  simp only [cond_true]
  rw [takeN_of_chain r _ h2]
  rfl
theorem takeT_of_chain {v : List Int} {a : List Txn} (h : chain v a = true) : takeT v a = (a, nexts v a) := takeN_of_chain a v h
/-- Each number up to what is heard is one's who was taken. -/
theorem chain_every : ∀ {b : List Txn} {v : List Int}, chain v b = true → ∀ (i : Nat) (s : Int), vat v i < s → s ≤ vat (nexts v b) i → ∃ t ∈ b, t.node = i ∧ t.seq = s
 | [], v, _, i, s, h1, h2 => by rw [nexts_nil] at h2; omega
 | t :: r, v, h, i, s, h1, h2 => by
  obtain ⟨hr, hc⟩ := (chain_cons v t r).1 h
  rcases Int.lt_or_le (vat (next v t) i) s with hs | hs
  ·obtain ⟨x, hx, e⟩ := chain_every hc i s hs h2
   exact ⟨x, List.mem_cons_of_mem _ hx, e⟩
  ·refine ⟨t, List.mem_cons_self .., ?_⟩
   rw [vat_next] at hs
   split at hs
   ·rename_i hk
    obtain ⟨ho, rfl⟩ := hk
    have h3 := ((ready_iff v t).1 hr).2.1
    unfold vatI at h3
    rw [if_neg (by have := ho.1; omega)] at h3
    exact ⟨by have := ho.1; omega, by omega⟩
   ·omega
/-- Who was taken is heard. -/
theorem chain_heard : ∀ {b : List Txn} {v : List Int}, chain v b = true → ∀ t ∈ b, okN t → t.seq ≤ vat (nexts v b) t.node.toNat
 | [], _, _, t, ht, _ => by simp at ht
 | x :: r, v, h, t, ht, ho => by
  obtain ⟨hr, hc⟩ := (chain_cons v x r).1 h
  rcases List.mem_cons.1 ht with rfl | ht
  ·refine Int.le_trans ?_ (nexts_mono hc _)
   rw [vat_next, if_pos ⟨ho, rfl⟩]
   exact Int.le_refl _
  ·exact chain_heard hc t ht ho
theorem chain_sub : ∀ {a : List Txn} {u v w : List Int} {l b : List Txn}, (∀ t ∈ l, ∀ t' ∈ l, dotOf t = dotOf t' → t = t') → chain v b = true → w = nexts v b → (∀ t ∈ b, t ∈ l) → (∀ t ∈ l, t ∈ b ∨ ready w t = false) →
  (∀ i, vat v i ≤ vat u i) → (∀ i, vat u i ≤ vat w i) → chain u a = true → (∀ t ∈ a, t ∈ l) → (∀ t ∈ a, t ∈ b) ∧ ∀ i, vat (nexts u a) i ≤ vat w i
 | [], u, v, w, l, b, _, _, _, _, _, _, hw, _, _ => ⟨by simp, hw⟩
 | t :: r, u, v, w, l, b, hd, hb, hwn, hbl, hr, hv, hw, hc, hal => by
  obtain ⟨h1, h2⟩ := (chain_cons u t r).1 hc
  have htl := hal t (List.mem_cons_self ..)
  obtain ⟨g1, g2, g3⟩ := (ready_iff u t).1 h1
  have htb : t ∈ b := by
   rcases hr t htl with h | h
   ·exact h
   ·have hnot : t.seq - 1 ≠ vatI w t.node := fun e => by
     have := (ready_iff w t).2 ⟨g1, e, fun i => Int.le_trans (g3 i) (hw i)⟩
     rw [h] at this; exact absurd this (by simp)
    have hle := vatI_mono hw t.node
    have hn0 : 0 ≤ t.node := by
     unfold vatI at hnot hle g2
     split at g2
     ·rename_i hneg; rw [if_pos hneg] at hnot; omega
     ·omega
    have e1 : vatI u t.node = vat u t.node.toNat := by unfold vatI; rw [if_neg (by omega)]
    have e2 : vatI w t.node = vat w t.node.toNat := by unfold vatI; rw [if_neg (by omega)]
    have hvu := hv t.node.toNat
    obtain ⟨x, hx, e3, e4⟩ := chain_every hb t.node.toNat t.seq (by omega) (by rw [← hwn]; omega)
    have := hd x (hbl x hx) t htl (by unfold dotOf; rw [e3, e4, Int.toNat_of_nonneg hn0])
    rwa [← this]
  have hw' : ∀ i, vat (next u t) i ≤ vat w i := fun i => by
   rw [vat_next]
   split
   ·rename_i hk
    obtain ⟨ho, rfl⟩ := hk
    rw [hwn]
    exact chain_heard hb t htb ho
   ·exact hw i
  obtain ⟨k1, k2⟩ := chain_sub hd hb hwn hbl hr (fun i => Int.le_trans (hv i) (next_mono h1 i)) hw' h2 (fun x hx => hal x (List.mem_cons_of_mem _ hx))
  refine ⟨fun x hx => ?_, k2⟩
  rcases List.mem_cons.1 hx with rfl | hx
  ·exact htb
  ·exact k1 x hx
/-- Out of lists with the same transactions the same ones are taken. -/
theorem takeT_sub {v : List Int} {l l' : List Txn} (hd : ∀ t ∈ l', ∀ t' ∈ l', dotOf t = dotOf t' → t = t') (hl : ∀ t ∈ l, t ∈ l') :
  (∀ t ∈ (takeT v l).1, t ∈ (takeT v l').1) ∧ ∀ i, vat (takeT v l).2 i ≤ vat (takeT v l').2 i := by
 obtain ⟨r, hp, hr⟩ := takeT_rest v l'
 rw [takeT_nexts v l]
 exact chain_sub hd (takeT_chain v l') (takeT_nexts v l') (fun t ht => takeT_mem ht) (fun t ht => by
  rcases List.mem_append.1 (hp.mem_iff.1 ht) with h | h
  ·exact .inl h
  ·exact .inr (hr t h)) (fun i => Int.le_refl _) (fun i => by rw [takeT_nexts]; exact nexts_mono (takeT_chain v l') i) (takeT_chain v l) (fun t ht => hl t (takeT_mem ht))
theorem dots_inj : ∀ {l : List Txn}, (l.map dotOf).Nodup → ∀ t ∈ l, ∀ t' ∈ l, dotOf t = dotOf t' → t = t'
 | [], _, t, ht, _, _, _ => by simp at ht
 | x :: r, hn, t, ht, t', ht', e => by
  rw [List.map_cons, List.nodup_cons] at hn
  rcases List.mem_cons.1 ht with h1 | h1 <;> rcases List.mem_cons.1 ht' with h2 | h2
  ·rw [h1, h2]
  ·exact absurd (by rw [← h1, e]; exact List.mem_map_of_mem h2) hn.1
  ·exact absurd (by rw [← h2, ← e]; exact List.mem_map_of_mem h1) hn.1
  ·exact dots_inj hn.2 t h1 t' h2 e
theorem nodup_of_dots {l : List Txn} (h : (l.map dotOf).Nodup) : l.Nodup := by
 induction l with
 | nil => simp
 | cons t r ih =>
  rw [List.map_cons, List.nodup_cons] at h
  exact List.nodup_cons.2 ⟨fun ht => h.1 (List.mem_map_of_mem ht), ih h.2⟩
/-- What is taken of numbers that may stand in vectors is there once. -/
theorem chain_nodup : ∀ {b : List Txn} {v : List Int}, chain v b = true → (∀ t ∈ b, okN t) → b.Nodup ∧ ∀ t ∈ b, vat v t.node.toNat < t.seq
 | [], _, _, _ => ⟨by simp, by simp⟩
 | t :: r, v, h, ho => by
  obtain ⟨hr, hc⟩ := (chain_cons v t r).1 h
  obtain ⟨h1, h2⟩ := chain_nodup hc fun x hx => ho x (List.mem_cons_of_mem _ hx)
  have ht := ho t (List.mem_cons_self ..)
  refine ⟨List.nodup_cons.2 ⟨fun hm => ?_, h1⟩, fun x hx => ?_⟩
  ·have := h2 t hm
   rw [vat_next, if_pos ⟨ht, rfl⟩] at this
   omega
  ·rcases List.mem_cons.1 hx with rfl | hx
   ·have h3 := ((ready_iff v x).1 hr).2.1
    unfold vatI at h3
    rw [if_neg (by have := ht.1; omega)] at h3
    omega
   ·exact Int.lt_of_le_of_lt (next_mono hr _) (h2 x hx)
theorem take_any {v : List Int} {l l' : List Txn} (hd : ∀ t ∈ l, ∀ t' ∈ l, dotOf t = dotOf t' → t = t') (hm : ∀ t, t ∈ l ↔ t ∈ l') (h1 : (takeT v l).1.Nodup) (h2 : (takeT v l').1.Nodup) :
  (takeT v l).1.Perm (takeT v l').1 ∧ ∀ i, vat (takeT v l).2 i = vat (takeT v l').2 i := by
 obtain ⟨a1, a2⟩ := takeT_sub (v := v) (l := l) (l' := l') (fun t ht t' ht' => hd t ((hm t).2 ht) t' ((hm t').2 ht')) (fun t ht => (hm t).1 ht)
 obtain ⟨b1, b2⟩ := takeT_sub (v := v) (l := l') (l' := l) hd (fun t ht => (hm t).2 ht)
 exact ⟨(List.perm_ext_iff_of_nodup h1 h2).2 fun t => ⟨a1 t, b1 t⟩, fun i => Int.le_antisymm (a2 i) (b2 i)⟩
theorem take_nodup {v : List Int} {l : List Txn} (h : l.Nodup) : (takeT v l).1.Nodup := by
 obtain ⟨r, hp, _⟩ := takeT_rest v l
 exact (List.nodup_append.1 (hp.nodup_iff.1 h)).1
end Go.Bv
namespace Go.Bv
open Go Go.Proofs
def dropsE (l : List Eff) : List Dot := l.flatMap Eff.drops
def dropsT (l : List Txn) : List Dot := l.flatMap fun t => dropsE t.effs
theorem mem_dropsE {l : List Eff} {d : Dot} : d ∈ dropsE l ↔ ∃ e ∈ l, d ∈ e.drops := by simp [dropsE]
theorem mem_dropsT {l : List Txn} {d : Dot} : d ∈ dropsT l ↔ ∃ t ∈ l, ∃ e ∈ t.effs, d ∈ e.drops := by
 unfold dropsT
 simp only [List.mem_flatMap, mem_dropsE]
theorem formed_n {t : Txn} (h : formed t = true) : okN t := by
 unfold formed at h
 simp only [Bool.and_eq_true, decide_eq_true_eq] at h
 unfold okN
 omega
/-- What transactions mean. -/
def madeL' (l : List Txn) : List Item := l.flatMap fun t => (t.effs.filter fun e => decide (e.kind ≠ 0 ∧ (⟨t.node, t.seq, e.at'⟩ : Dot) ∉ dropsT l)).map (made t.node t.seq)
def means (l : List Txn) : List Item := norm (madeL' l)
end Go.Bv
namespace Go.Bv
open Go Go.Proofs
def thereB (l : List Txn) (i : Int) (s : Int) : Bool := l.any fun t => decide (t.node = i ∧ t.seq = s)
theorem thereB_iff {l : List Txn} {i s : Int} : thereB l i s = true ↔ ∃ t ∈ l, t.node = i ∧ t.seq = s := by
 unfold thereB
 rw [List.any_eq_true]
 simp
def runN (l : List Txn) (i : Int) : Nat → Nat → Nat
 | 0, n => n
 | f + 1, n => if thereB l i ((n : Int) + 1) = true then runN l i f (n + 1) else n
def runT (l : List Txn) (i : Int) : Nat := runN l i (l.length + 1) 0
theorem many_len : ∀ (n : Nat) {l : List Txn} {i : Int}, (∀ k : Nat, 1 ≤ k → k ≤ n → thereB l i k = true) → n ≤ l.length
 | 0, _, _, _ => Nat.zero_le _
 | n + 1, l, i, h => by
  obtain ⟨t, ht, h1, h2⟩ := thereB_iff.1 (h (n + 1) (by omega) (Nat.le_refl _))
  have hle := many_len n (l := l.erase t) (i := i) fun k hk hkn => by
   obtain ⟨t', ht', h1', h2'⟩ := thereB_iff.1 (h k hk (by omega))
   have hne : t' ≠ t := fun e => by rw [e] at h2'; omega
   exact thereB_iff.2 ⟨t', (List.mem_erase_of_ne hne).2 ht', h1', h2'⟩
  rw [List.length_erase_of_mem ht] at hle
  have : 0 < l.length := List.length_pos_of_mem ht
  omega
theorem runN_spec (l : List Txn) (i : Int) : ∀ (f n : Nat), l.length + 1 ≤ n + f → (∀ k : Nat, 1 ≤ k → k ≤ n → thereB l i k = true) →
  (∀ k : Nat, 1 ≤ k → k ≤ runN l i f n → thereB l i k = true) ∧ thereB l i ((runN l i f n : Int) + 1) = false
 | 0, n, hf, h => by
  have := many_len n h
  omega
 | f + 1, n, hf, h => by
  rw [runN]
  split
  ·rename_i ht
   exact runN_spec l i f (n + 1) (by omega) fun k hk hkn => by
    rcases Nat.lt_or_ge n k with h' | h'
    ·have : k = n + 1 := by omega
     subst this; exact ht
    ·exact h k hk h'
  ·rename_i ht
   exact ⟨h, by simpa using ht⟩
theorem runT_spec (l : List Txn) (i : Int) : (∀ k : Nat, 1 ≤ k → k ≤ runT l i → thereB l i k = true) ∧ thereB l i ((runT l i : Int) + 1) = false :=
 runN_spec l i _ 0 (by omega) (fun k h1 h2 => by omega)
def heardP (l : List Txn) : List Int := trim (tab0 (fun i => (runT l (i : Int) : Int)) 8)
def closedB (l : List Txn) : Bool := l.all (fun t => formed t) && decide ((takeT [] l).1.length = l.length)
theorem perm_mem {l l' : List Txn} (h : l.Perm l') : ∀ t, t ∈ l ↔ t ∈ l' := fun t => h.mem_iff
end Go.Bv
namespace Go.Bv
set_option linter.unusedSimpArgs false
set_option linter.unusedVariables false
set_option maxHeartbeats 4000000
open Go Go.Proofs
theorem getJ {α : Type} {f : α → AV} {l : List α} {junk : List AV} {i : Nat} (h : i < l.length) : (l.map f ++ junk)[0 + i]? = some (f l[i]) := by
 rw [Nat.zero_add, List.getElem?_append_left (by simpa using h), List.getElem?_map, List.getElem?_eq_getElem h]; rfl
theorem delete_alg {α : Type} (es junk : List α) (i j : Nat) (z : α) (hi : i < j) (hj : j ≤ es.length) :
  es.take i ++ es.drop j ++ (List.replicate (j - i) z ++ junk) = ((es ++ junk).take i ++ (es.drop j ++ (es ++ junk).drop (i + (es.length - j)))).take (i + (es.length - j)) ++ (List.replicate (es.length - (i + (es.length - j))) z ++ ((es ++ junk).take i ++ (es.drop j ++ (es ++ junk).drop (i + (es.length - j)))).drop (i + (es.length - j) + (es.length - (i + (es.length - j))))) := by
 have h0 : (es ++ junk).take i = es.take i := List.take_append_of_le_length (by omega)
 have hl : (es.take i ++ es.drop j).length = i + (es.length - j) := by simp; omega
 rw [h0, ← List.append_assoc (es.take i), List.take_left' hl, show es.length - (i + (es.length - j)) = j - i by omega]
 congr 2
 rw [List.drop_append, List.drop_eq_nil_of_le (by omega), List.nil_append, hl, List.drop_drop, show i + (es.length - j) + (i + (es.length - j) + (j - i) - (i + (es.length - j))) = es.length by omega, List.drop_left]
theorem deleteT_walk (es junk : List AV) (i j : Nat) (hi : i < j) (hj : j ≤ es.length) (hb : es.length ≤ 2 ^ 40) : ACalls Tryz.prog Nm.slices_Delete_api_Txn_api_Txn [.own 0 0 es.length, i64 i, i64 j] [.row .vrow (.agg 4) (es ++ junk)]
  (.own 0 0 (i + (es.length - j))) [.row .vrow (.agg 4) (es.take i ++ es.drop j ++ (List.replicate (j - i) (.agg [i64 0, i64 0, .nils, .nils]) ++ junk))] := by
 refine ACalls_of tab (dr_snd tab mixed) Nm.slices_Delete_api_Txn_api_Txn_h rfl (by kernel_rfl) (Nat.le_of_ble_eq_true rfl) rfl ?_
 by_cases hje : j < es.length
 ·refine NP.mk (by (simp only [zLm, zLa, zLr, zLc, zLn, zLt, zLd]; omega)) ?_
  refine ND.no (by omega) ?_
  refine NP.mk (by kernel_rfl) ?_
  apply NDr.any
  ·intro H'
   exact ⟨rfl, rfl⟩
  refine NDr.w _ ?_
  apply NDr.rd [0]
  ·intro fH TH
   refine NP.mk (by (simp only [zLm, zLa, zLr, zLc, zLn, zLt, zLd]; omega)) ?_
   exact ⟨rfl, rfl⟩
  apply NDr.any
  ·intro H'
   exact ⟨rfl, rfl⟩
  refine NDr.w _ ?_
  apply NDr.rd [0]
  ·intro fH TH
   refine NSl.mid (by omega) ?_
   exact ⟨rfl, rfl⟩
  apply NDr.efw [0]
  ·refine NFz.own ?_
   refine NP.mk (by (simp only [zLm, zLa, zLr, zLc, zLn, zLt, zLd]; omega)) ?_
   refine NApp.inA (by (simp only [zLm, zLa, zLr, zLc, zLn, zLt, zLd]; omega)) ?_
   exact ⟨rfl, rfl⟩
  ·repeat (first | exact True.intro | refine ⟨by first | exact rfl | exact True.intro, ?_⟩)
  apply NDr.any
  ·intro H'
   exact ⟨rfl, rfl⟩
  refine NP.mk (by kernel_rfl) ?_
  refine NP.mk (by (simp only [zLm, zLa, zLr, zLc, zLn, zLt, zLd]; omega)) ?_
  refine NSl.mid (by simp only [zLm, zLa, zLr, zLc, zLn, zLt, zLd]; omega) ?_
  have hx : ((es ++ junk).drop j).take (es.length - j) = es.drop j := by
   rw [List.drop_append_of_le_length hj, List.take_left' (by simp)]
  have hxl : (es.drop j).length = es.length - j := List.length_drop
  refine NRet.mk [] rfl ⟨?_, ?_⟩
  ·simp only [Int.toNat_natCast, Nat.zero_add, hx, hxl]; exact .refl _
  ·simp only [Int.toNat_natCast, Nat.zero_add, hx, hxl]
   exact congrArg (fun l => [Blk.row .vrow (.agg 4) l]) (delete_alg es junk i j _ hi hj)
 ·refine NP.mk (by (simp only [zLm, zLa, zLr, zLc, zLn, zLt, zLd]; omega)) ?_
  refine ND.no (by omega) ?_
  refine NP.mk (by kernel_rfl) ?_
  apply NDr.any
  ·intro H'
   exact ⟨rfl, rfl⟩
  refine NDr.w _ ?_
  apply NDr.rd [0]
  ·intro fH TH
   refine NP.mk (by (simp only [zLm, zLa, zLr, zLc, zLn, zLt, zLd]; omega)) ?_
   exact ⟨rfl, rfl⟩
  apply NDr.any
  ·intro H'
   exact ⟨rfl, rfl⟩
  refine NDr.w _ ?_
  apply NDr.rd [0]
  ·intro fH TH
   refine NSl.fin (by omega) ?_
   exact ⟨rfl, rfl⟩
  apply NDr.efw [0]
  ·refine NFz.own ?_
   refine NApp.inA (by (simp only [zLm, zLa, zLr, zLc, zLn, zLt, zLd]; omega)) ?_
   exact ⟨rfl, rfl⟩
  ·repeat (first | exact True.intro | refine ⟨by first | exact rfl | exact True.intro, ?_⟩)
  apply NDr.any
  ·intro H'
   exact ⟨rfl, rfl⟩
  refine NP.mk (by kernel_rfl) ?_
  refine NP.mk (by (simp only [zLm, zLa, zLr, zLc, zLn, zLt, zLd]; omega)) ?_
  refine NSl.mid (by simp only [zLm, zLa, zLr, zLc, zLn, zLt, zLd]; omega) ?_
  have hj' : es.length - j = 0 := by omega
  refine NRet.mk [] rfl ⟨?_, ?_⟩
  ·simp only [Int.toNat_natCast, Nat.zero_add, hj', Nat.add_zero]; exact .refl _
  ·simp only [Int.toNat_natCast, Nat.zero_add, Nat.add_zero]
   have := delete_alg es junk i j (AV.agg [i64 0, i64 0, .nils, .nils]) hi hj
   rw [hj', Nat.add_zero, List.drop_eq_nil_of_le (show es.length ≤ j by omega), List.nil_append, List.append_nil] at this
   rw [List.drop_eq_nil_of_le (show es.length ≤ j by omega), List.append_nil]
   exact congrArg (fun l => [Blk.row .vrow (.agg 4) l]) this
theorem hasPrefixL_walk (s p : List UInt8) (hs : s.length ≤ 2 ^ 47) : ACalls Tryz.prog Nm.internal_stringslite_HasPrefix [.str s, .str p] [] (.bool (decide (s.take p.length = p))) [] := by
 refine ACalls_of tab (dr_snd tab mixed) Nm.internal_stringslite_HasPrefix_h rfl (by kernel_rfl) (Nat.le_of_ble_eq_true rfl) rfl ?_
 by_cases h1 : p.length ≤ s.length
 ·by_cases h2 : s.take p.length = p
  ·rw [decide_eq_true h2]
   refine ND.yes (by omega) ?_
   refine NP.mk (by omega) ?_
   refine ND.yes (by (simp; omega)) ?_
   exact NRet.mk [] rfl ⟨.refl _, rfl⟩
  ·rw [decide_eq_false h2]
   refine ND.yes (by omega) ?_
   refine NP.mk (by omega) ?_
   refine ND.no (by (simp; omega)) ?_
   exact NRet.mk [] rfl ⟨.refl _, rfl⟩
 ·rw [decide_eq_false (fun h => h1 (by rw [← h, List.length_take]; omega))]
  refine ND.no (by omega) ?_
  exact NRet.mk [] rfl ⟨.refl _, rfl⟩
theorem hasPrefix_walk (s p : List UInt8) (hs : s.length ≤ 2 ^ 47) : ACalls Tryz.prog Nm.strings_HasPrefix [.str s, .str p] [] (.bool (decide (s.take p.length = p))) [] := by
 refine ACalls_of tab (dr_snd tab mixed) Nm.strings_HasPrefix_h rfl (by kernel_rfl) (Nat.le_of_ble_eq_true rfl) rfl ?_
 refine NCall.call (hasPrefixL_walk s p hs) rfl rfl ?_
 exact NRet.mk [] rfl ⟨.refl _, rfl⟩
theorem cloneD_walk (es : List AV) (hl : es.length ≤ 2 ^ 40) : ACalls Tryz.prog Nm.slices_Clone_api_Dot_api_Dot [.list (.agg 3) es] [] (.own 0 0 es.length) [.row .vrow (.agg 3) es] := by
 refine ACalls_of tab (dr_snd tab mixed) Nm.slices_Clone_api_Dot_api_Dot_h rfl (by kernel_rfl) (Nat.le_of_ble_eq_true rfl) rfl ?_
 refine NN.mk (fun h => ?_) ?_
 ·subst h
  exact NRet.ad [(2, .agg 3)] [0] rfl ⟨.refl _, rfl⟩
 ·refine NFz.own ?_
  refine NApp.endA rfl (by simp; omega) ?_
  exact NRet.mk [1] rfl ⟨.refl _, rfl⟩
end Go.Bv
namespace Go.Bv
set_option linter.unusedSimpArgs false
set_option linter.unusedVariables false
set_option maxHeartbeats 4000000
open Go Go.Proofs
def strsA (l : List (List UInt8)) : AV := .list .leaf (l.map AV.str)
def begins (s p : List UInt8) : Bool := decide (s.take p.length = p)
theorem covF_walk (k p : List UInt8) (hk : k.length ≤ 2 ^ 47) : ACalls Tryz.prog Nm.zone_Covers_1 [.str p, .ptr 0 0 0] [.row .box .leaf [.str k]] (.bool (begins k p)) [.row .box .leaf [.str k]] := by
 refine ACalls_of tab (dr_snd tab mixed) Nm.zone_Covers_1_h rfl (by kernel_rfl) (Nat.le_of_ble_eq_true rfl) rfl ?_
 refine NCall.call (hasPrefix_walk k p hk) rfl rfl ?_
 exact NRet.mk [] rfl ⟨.refl _, rfl⟩
theorem indexS_walk (g : Nat) (k : List UInt8) (l : List (List UInt8)) (p : List UInt8 → Bool) (hl : l.length ≤ 2 ^ 40) (hg : ∀ t ∈ l, ACalls Tryz.prog g [.str t, .ptr 0 0 0] [.row .box .leaf [.str k]] (.bool (p t)) [.row .box .leaf [.str k]]) :
  ACalls Tryz.prog Nm.slices_IndexFunc_string_string [strsA l, .fn g [.ptr 0 0 0]] [.row .box .leaf [.str k]] (i64 (ixI p l)) [.row .box .leaf [.str k]] := by
 refine ACalls_of tab (dr_snd tab mixed) Nm.slices_IndexFunc_string_string_h rfl (by kernel_rfl) (Nat.le_of_ble_eq_true rfl) rfl ?_
 refine NLoop.mk [] [0, 1, 6, 7, 8] (fun m vs H => ∃ i, i ≤ l.length ∧ m = l.length - i ∧ (∀ x ∈ l.take i, p x = false) ∧ H = [.row .box .leaf [.str k]] ∧ vs = [strsA l, .fn g [.ptr 0 0 0], strsA l, i64 l.length, i64 i]) rfl ?_ ?_
 ·exact Canon.mk [] rfl ⟨l.length, 0, Nat.zero_le _, rfl, by simp, rfl, by simp [strsA, i64]⟩
 ·rintro m vs H ⟨i, hi, rfl, ht, rfl, rfl⟩
  by_cases hil : i < l.length
  ·have hc := hg _ (List.getElem_mem hil)
   obtain ⟨f1, f2⟩ := find_step hil ht
   cases hp : p l[i] with
   | true =>
    rw [hp] at hc
    rw [f1 hp]
    refine ND.yes (by omega) ?_
    refine NP.mk (by omega) ?_
    refine NG.mapN (by omega) ?_
    refine NCall.atA (hc) ?_
    exact NRet.mk [] rfl ⟨.refl _, rfl⟩
   | false =>
    rw [hp] at hc
    refine ND.yes (by omega) ?_
    refine NP.mk (by omega) ?_
    refine NG.mapN (by omega) ?_
    refine NCall.atA (hc) ?_
    refine NW.w ?_
    exact Canon.mk [] rfl ⟨l.length - (i + 1), by omega, i + 1, by omega, rfl, f2 hp, rfl, rfl⟩
  ·have : i = l.length := by omega
   subst this
   rw [List.take_length] at ht
   rw [find_none ht]
   refine ND.no (by omega) ?_
   exact NRet.mk [] rfl ⟨.refl _, rfl⟩
theorem ixI_any {α : Type} (p : α → Bool) (l : List α) : l.any p = decide (0 ≤ ixI p l) := by
 unfold ixI
 cases h : l.findIdx? p with
 | none =>
  rw [List.findIdx?_eq_none_iff] at h
  rw [List.any_eq_false.2 (fun x hx => by simp [h x hx])]
  rfl
 | some i =>
  rw [List.findIdx?_eq_some_iff_getElem] at h
  obtain ⟨h1, h2, _⟩ := h
  rw [List.any_eq_true.2 ⟨_, List.getElem_mem h1, h2⟩]
  simp
theorem containsS_walk (g : Nat) (k : List UInt8) (l : List (List UInt8)) (p : List UInt8 → Bool) (hl : l.length ≤ 2 ^ 40) (hg : ∀ t ∈ l, ACalls Tryz.prog g [.str t, .ptr 0 0 0] [.row .box .leaf [.str k]] (.bool (p t)) [.row .box .leaf [.str k]]) :
  ACalls Tryz.prog Nm.slices_ContainsFunc_string_string [strsA l, .fn g [.ptr 0 0 0]] [.row .box .leaf [.str k]] (.bool (l.any p)) [.row .box .leaf [.str k]] := by
 refine ACalls_of tab (dr_snd tab mixed) Nm.slices_ContainsFunc_string_string_h rfl (by kernel_rfl) (Nat.le_of_ble_eq_true rfl) rfl ?_
 have hi := indexS_walk g k l p hl hg
 rw [ixI_any]
 by_cases h : 0 ≤ ixI p l
 ·rw [decide_eq_true h]
  refine NCall.atA (hi) ?_
  refine ND.yes (by omega) ?_
  exact NRet.mk [] rfl ⟨.refl _, rfl⟩
 ·rw [decide_eq_false h]
  refine NCall.atA (hi) ?_
  refine ND.no (by omega) ?_
  exact NRet.mk [] rfl ⟨.refl _, rfl⟩
theorem covers_walk (z : List (List UInt8)) (k : List UInt8) (hz : z.length ≤ 2 ^ 40) (hk : k.length ≤ 2 ^ 47) : ACalls Tryz.prog Nm.zone_Covers [strsA z, .str k] [] (.bool (z.any (begins k))) [] := by
 refine ACalls_of tab (dr_snd tab mixed) Nm.zone_Covers_h rfl (by kernel_rfl) (Nat.le_of_ble_eq_true rfl) rfl ?_
 have hc := containsS_walk Nm.zone_Covers_1 k z (begins k) hz (fun t _ => covF_walk k t hk)
 refine NCall.atA (hc) ?_
 exact NRet.mk [] rfl ⟨.refl _, rfl⟩
theorem dropL {sh : Sh} {es : List AV} {n : Nat} (hn : n = es.length) : DropT [.row .vrow sh es] (.own 0 0 n) (.list sh es) := by
 subst hn
 exact .val (.own trivial rfl (by simp) (by simp) (by rw [List.drop_zero, List.take_of_length_le (by simp)])) rfl (fun _ => by simp) (fun _ => by simp)
theorem cloneD_list (l : List Dot) (hl : l.length ≤ 2 ^ 40) : ACalls Tryz.prog Nm.slices_Clone_api_Dot_api_Dot [dotsA l] [] (dotsA l) [] :=
 (cloneD_walk (l.map dotA) (by simpa using hl)).drop (dropL rfl)
theorem cloneV_list (l : List Int) (hl : l.length ≤ 2 ^ 40) : ACalls Tryz.prog Nm.slices_Clone_api_Vec_int [ints l] [] (ints l) [] :=
 (cloneV_walk l hl).drop (dropL (by simp))
def effsOnly (l : List Eff) (z : List (List UInt8)) : List Eff := l.filter fun e => z.any (begins e.key)
def smEff (e : Eff) : Prop := e.key.length ≤ 2 ^ 40 ∧ e.field.length ≤ 2 ^ 40 ∧ e.elem.length ≤ 2 ^ 40 ∧ e.drops.length ≤ 2 ^ 40
theorem filter_take {α : Type} (p : α → Bool) (l : List α) {i : Nat} (h : i < l.length) : (l.take (i + 1)).filter p = if p l[i] then (l.take i).filter p ++ [l[i]] else (l.take i).filter p := by
 rw [List.take_succ_eq_append_getElem h, List.filter_append]
 cases hp : p l[i] <;> simp [hp]
theorem effOnly_walk (l : List Eff) (z : List (List UInt8)) (hl : l.length ≤ 2 ^ 38) (hz : z.length ≤ 2 ^ 40) (hx : ∀ e ∈ l, smEff e) : ACalls Tryz.prog Nm.eff_Only [effsA l, strsA z] [] (effsA (effsOnly l z)) [] := by
 refine ACalls_of tab (dr_snd tab mixed) Nm.eff_Only_h rfl (by kernel_rfl) (Nat.le_of_ble_eq_true rfl) rfl ?_
 let p : Eff → Bool := fun e => z.any (begins e.key)
 have hp0 : effsOnly l z = l.filter p := rfl
 refine NLoop.mk [(5, .agg 7)] [1, 5, 8, 9, 10] (fun m vs H => ∃ i, i ≤ l.length ∧ m = l.length - i ∧ H = [.row .vrow (.agg 7) (((l.take i).filter p).map effA)] ∧ vs = [strsA z, .own 0 0 (((l.take i).filter p).map effA).length, effsA l, i64 l.length, i64 i]) rfl ?_ ?_
 ·exact Canon.mk [0] rfl ⟨l.length, 0, Nat.zero_le _, rfl, rfl, by simp [effsA, strsA, i64]⟩
 ·rintro m vs H ⟨i, hi, rfl, rfl, rfl⟩
  by_cases hil : i < l.length
  ·have hs := filter_take p l hil
   have hfl : ((l.take i).filter p).length ≤ i := Nat.le_trans (List.length_filter_le _ _) (by simp; omega)
   obtain ⟨x1, x2, x3, x4⟩ := hx _ (List.getElem_mem hil)
   have hc := covers_walk z l[i].key hz (by omega)
   have hd := cloneD_list l[i].drops x4
   cases hp : p l[i] with
   | true =>
    rw [show z.any (begins l[i].key) = true from hp] at hc
    rw [hp, if_pos rfl] at hs
    refine ND.yes (by omega) ?_
    refine NP.mk (by omega) ?_
    refine NG.mapN (by omega) ?_
    refine NCall.call (hc) rfl rfl ?_
    refine NCall.call (hd) rfl rfl ?_
    refine NFz.own ?_
    refine NApp.endA rfl (by simp; omega) ?_
    refine NW.w ?_
    exact Canon.mk [2] rfl ⟨l.length - (i + 1), by omega, i + 1, by omega, rfl, by rw [hs, List.map_append]; rfl, by rw [hs, List.map_append]; rfl⟩
   | false =>
    rw [show z.any (begins l[i].key) = false from hp] at hc
    rw [hp, if_neg (by simp)] at hs
    refine ND.yes (by omega) ?_
    refine NP.mk (by omega) ?_
    refine NG.mapN (by omega) ?_
    refine NCall.call (hc) rfl rfl ?_
    refine NW.w ?_
    exact Canon.mk [0] rfl ⟨l.length - (i + 1), by omega, i + 1, by omega, rfl, by rw [hs], by rw [hs]; rfl⟩
  ·have : i = l.length := by omega
   subst this
   rw [List.take_length]
   refine ND.no (by omega) ?_
   exact NRet.mk [] rfl (NFrz.mk ((l.filter p).map effA) (by simp) (by rw [List.drop_zero, List.take_length]) ⟨.refl _, rfl⟩)
end Go.Bv
namespace Go.Bv
set_option linter.unusedSimpArgs false
set_option linter.unusedVariables false
set_option maxHeartbeats 4000000
open Go Go.Proofs
/-- A transaction that is not too large. -/
def smTxn (t : Txn) : Prop := okInt t.seq ∧ t.deps.length ≤ 2 ^ 30 ∧ t.effs.length ≤ 2 ^ 30 ∧ ∀ e ∈ t.effs, smEff e
def onlyT (t : Txn) (z : List (List UInt8)) : Txn := { t with effs := effsOnly t.effs z }
theorem effsOnly_all (l : List Eff) : effsOnly l [[]] = l := by
 unfold effsOnly
 rw [List.filter_eq_self]
 intro e _
 simp [begins]
theorem onlyT_all (t : Txn) : onlyT t [[]] = t := by unfold onlyT; rw [effsOnly_all]
theorem txnOnly_walk (t : Txn) (z : List (List UInt8)) (ht : smTxn t) (hz : z.length ≤ 2 ^ 40) : ACalls Tryz.prog Nm.txn_Only [txnA t, strsA z] [] (txnA (onlyT t z)) [] := by
 refine ACalls_of tab (dr_snd tab mixed) Nm.txn_Only_h rfl (by kernel_rfl) (Nat.le_of_ble_eq_true rfl) rfl ?_
 obtain ⟨h1, h2, h3, h4⟩ := ht
 refine NCall.call (cloneV_list t.deps (by omega)) rfl rfl ?_
 refine NCall.call (effOnly_walk t.effs z (by omega) hz h4) rfl rfl ?_
 exact NRet.mk [] rfl ⟨.refl _, rfl⟩
theorem txnOnlyAll_walk (t : Txn) (ht : smTxn t) : ACalls Tryz.prog Nm.txn_Only [txnA t, .list .leaf [.str []]] [] (txnA t) [] := by
 have := txnOnly_walk t [[]] ht (by simp)
 rwa [onlyT_all] at this
theorem takeF_walk (v : List Int) (t : Txn) (hv : v.length ≤ 2 ^ 38) (ht : smTxn t) : ACalls Tryz.prog Nm.order_Take_1 [txnA t, .ptr 0 0 0] [.row .box .leaf [.list .leaf (v.map i64)]] (.bool (ready v t)) [.row .box .leaf [.list .leaf (v.map i64)]] := by
 refine ACalls_of tab (dr_snd tab mixed) Nm.order_Take_1_h rfl (by kernel_rfl) (Nat.le_of_ble_eq_true rfl) rfl ?_
 refine NCall.call (ready_walk v t hv (by have := ht.2.1; omega) ht.1) rfl rfl ?_
 exact NRet.mk [] rfl ⟨.refl _, rfl⟩
theorem next_len (v : List Int) (t : Txn) : (next v t).length ≤ max v.length 8 := by
 by_cases h : okN t
 ·rw [next_ok h]
  have h1 := trim_len (vset v t.node.toNat t.seq)
  have h2 := h.2.1
  simp only [vset, List.length_set, List.length_append, List.length_replicate] at h1 ⊢
  omega
 ·rw [next_bad h]
  have := trim_len v; omega
/-- slices.IndexFunc of transactions in a row of one's own; the function looks into one box. -/
theorem indexTo_walk (g : Nat) (cs : List AV) (l : List Txn) (junk : List AV) (p : Txn → Bool) (hl : l.length ≤ 2 ^ 40) (hg : ∀ t ∈ l, ACalls Tryz.prog g [txnA t, .ptr 0 0 0] [.row .box .leaf [.list .leaf cs]] (.bool (p t)) [.row .box .leaf [.list .leaf cs]]) :
  ACalls Tryz.prog Nm.slices_IndexFunc_api_Txn_api_Txn [.own 1 0 l.length, .fn g [.ptr 0 0 0]] [.row .box .leaf [.list .leaf cs], .row .vrow (.agg 4) (l.map txnA ++ junk)] (i64 (ixI p l)) [.row .box .leaf [.list .leaf cs], .row .vrow (.agg 4) (l.map txnA ++ junk)] := by
 refine ACalls_of tab (dr_snd tab mixed) Nm.slices_IndexFunc_api_Txn_api_Txn_h rfl (by kernel_rfl) (Nat.le_of_ble_eq_true rfl) rfl ?_
 refine NLoop.mk [] [0, 1, 6, 7, 8] (fun m vs H => ∃ i, i ≤ l.length ∧ m = l.length - i ∧ (∀ x ∈ l.take i, p x = false) ∧ H = [.row .box .leaf [.list .leaf cs], .row .vrow (.agg 4) (l.map txnA ++ junk)] ∧ vs = [.own 1 0 l.length, .fn g [.ptr 0 0 0], .own 1 0 l.length, i64 l.length, i64 i]) rfl ?_ ?_
 ·exact Canon.mk [] rfl ⟨l.length, 0, Nat.zero_le _, rfl, by simp, rfl, by simp [i64]⟩
 ·rintro m vs H ⟨i, hi, rfl, ht, rfl, rfl⟩
  by_cases hil : i < l.length
  ·have hc := hg _ (List.getElem_mem hil)
   obtain ⟨f1, f2⟩ := find_step hil ht
   have hx := getJ (f := txnA) (junk := junk) hil
   cases hp : p l[i] with
   | true =>
    rw [hp] at hc
    rw [f1 hp]
    refine ND.yes (by omega) ?_
    refine NP.mk (by (simp only [zLm, zLa, zLr, zLc, zLn, zLt, zLd]; omega)) ?_
    refine NG.mk _ (by assumption) ?_
    refine NCall.subA [0] (hc) ?_
    exact NRet.mk [] rfl ⟨.refl _, rfl⟩
   | false =>
    rw [hp] at hc
    refine ND.yes (by omega) ?_
    refine NP.mk (by (simp only [zLm, zLa, zLr, zLc, zLn, zLt, zLd]; omega)) ?_
    refine NG.mk _ (by assumption) ?_
    refine NCall.subA [0] (hc) ?_
    refine NW.w ?_
    exact Canon.mk [] rfl ⟨l.length - (i + 1), by omega, i + 1, by omega, rfl, f2 hp, rfl, rfl⟩
  ·have : i = l.length := by omega
   subst this
   rw [List.take_length] at ht
   rw [find_none ht]
   refine ND.no (by omega) ?_
   exact NRet.mk [] rfl ⟨.refl _, rfl⟩
theorem find_ix {p : Txn → Bool} {l : List Txn} : (∃ (i : Nat) (h : i < l.length), ixI p l = i ∧ l.find? p = some l[i] ∧ l.eraseP p = l.take i ++ l.drop (i + 1)) ∨ (ixI p l = -1 ∧ l.find? p = none) := by
 induction l with
 | nil => exact .inr ⟨rfl, rfl⟩
 | cons x r ih =>
  cases hx : p x with
  | true => exact .inl ⟨0, by simp, by simp [ixI, List.findIdx?_cons, hx], by simp [List.find?_cons, hx], by simp [List.eraseP_cons, hx]⟩
  | false =>
   rcases ih with ⟨i, h, h1, h2, h3⟩ | ⟨h1, h2⟩
   ·refine .inl ⟨i + 1, by simpa using h, ?_, by simp [hx, h2], by simp [hx, h3]⟩
    unfold ixI at h1 ⊢
    rw [List.findIdx?_cons, hx]
    cases hq : r.findIdx? p with
    | none => rw [hq] at h1; simp at h1 <;> omega
    | some k => rw [hq] at h1; simp at h1 ⊢; omega
   ·refine .inr ⟨?_, by simp [hx, h2]⟩
    unfold ixI at h1 ⊢
    rw [List.findIdx?_cons, hx]
    cases hq : r.findIdx? p with
    | none => simp
    | some k => rw [hq] at h1; simp at h1 <;> omega
theorem takeN_some {n : Nat} {v : List Int} {l : List Txn} {t : Txn} (h : l.find? (ready v) = some t) : takeN (n + 1) v l = (t :: (takeN n (next v t) (l.eraseP (ready v))).1, (takeN n (next v t) (l.eraseP (ready v))).2) := by
 conv => lhs; unfold takeN
 rw [h]
theorem takeN_none {n : Nat} {v : List Int} {l : List Txn} (h : l.find? (ready v) = none) : takeN n v l = ([], v) := by
 cases n with
 | zero => rfl
 | succ n => unfold takeN; rw [h]
theorem take_walk (v : List Int) (l : List Txn) (hv : v.length ≤ 2 ^ 38) (hl : l.length ≤ 2 ^ 30) (hx : ∀ t ∈ l, smTxn t) : ACalls Tryz.prog Nm.order_Take [ints v, txnsA l] [] (.tup [txnsA (takeT v l).1, ints (takeT v l).2]) [] := by
 refine ACalls_of tab (dr_snd tab mixed) Nm.order_Take_h rfl (by kernel_rfl) (Nat.le_of_ble_eq_true rfl) rfl ?_
 have h1 := cloneT_walk (l.map txnA) (by simp; omega)
 have h2 := cloneV_list v (by omega)
 refine NCall.atA (ACalls.frame (h1) rfl _) ?_
 refine NCall.call (h2) rfl rfl ?_
 refine NLoop.mk [(7, .agg 4)] [2, 6, 7] (fun m vs H => ∃ (out left : List Txn) (w : List Int) (junk : List AV), m = left.length ∧ w.length ≤ 2 ^ 38 ∧ left.length ≤ 2 ^ 30 ∧ out.length + left.length = l.length ∧ (∀ t ∈ left, smTxn t) ∧
  (takeT v l).1 = out ++ (takeN left.length w left).1 ∧ (takeT v l).2 = (takeN left.length w left).2 ∧
  H = [.row .box .leaf [ints w], .row .vrow (.agg 4) (left.map txnA ++ junk), .row .vrow (.agg 4) (out.map txnA)] ∧ vs = [.ptr 0 0 0, .own 1 0 left.length, .own 2 0 out.length]) rfl ?_ ?_
 ·exact Canon.mk [0, 1, 2] rfl ⟨l.length, [], l, v, [], rfl, hv, hl, by simp, hx, rfl, rfl, by simp [ints], by simp⟩
 ·rintro m vs H ⟨out, left, w, junk, rfl, hw, hll, hsum, hxl, e1, e2, rfl, rfl⟩
  rw [e1, e2]
  have h3 := indexTo_walk Nm.order_Take_1 (w.map i64) left junk (ready w) (by omega) (fun t ht => takeF_walk w t hw (hxl t ht))
  rcases find_ix (p := ready w) (l := left) with ⟨i, hi, f1, f2, f3⟩ | ⟨f1, f2⟩
  ·rw [f1] at h3
   have hm := List.getElem_mem hi
   have h4 := txnOnlyAll_walk left[i] (hxl _ hm)
   have h5 := next_walk w left[i] (by omega)
   have hx := getJ (f := txnA) (junk := junk) hi
   have h6 := deleteT_walk (left.map txnA) junk i (i + 1) (by omega) (by simp; omega) (by simp; omega)
   rw [List.length_map] at h6
   refine NCall.subA [0, 1] (h3) ?_
   refine ND.no (by omega) ?_
   refine NP.mk (by (simp only [zLm, zLa, zLr, zLc, zLn, zLt, zLd]; omega)) ?_
   refine NG.mk _ (by assumption) ?_
   refine NW.w ?_
   refine NCall.subA [1] (h6) ?_
   refine NCall.call (h4) rfl rfl ?_
   refine NFz.own ?_
   refine NApp.endA (by simp) (by simp; omega) ?_
   refine NCall.call (h5) rfl rfl ?_
   have hL : (left.take i ++ left.drop (i + 1)).length = i + (left.length - (i + 1)) := by simp; omega
   have eT := takeN_some (n := (left.take i ++ left.drop (i + 1)).length) f2
   rw [f3, show (left.take i ++ left.drop (i + 1)).length + 1 = left.length by omega] at eT
   rw [eT] at e1 e2 ⊢
   have hn := next_len w left[i]
   refine Canon.mk [0, 1, 4] rfl ⟨(left.take i ++ left.drop (i + 1)).length, by omega, out ++ [left[i]], left.take i ++ left.drop (i + 1), next w left[i], (List.replicate (i + 1 - i) (.agg [i64 0, i64 0, .nils, .nils]) ++ junk), rfl, by omega, by omega, by simp; omega, fun t ht => ?_, by simp, rfl, ?_, ?_⟩
   ·rcases List.mem_append.1 ht with h | h
    ·exact hxl t (List.mem_of_mem_take h)
    ·exact hxl t (List.mem_of_mem_drop h)
   ·simp only [List.map_append, List.map_take, List.map_drop]; rfl
   ·rw [hL]; simp
  ·rw [f1] at h3
   rw [takeN_none f2, List.append_nil]
   refine NCall.subA [0, 1] (h3) ?_
   refine ND.yes (by omega) ?_
   refine NP.mk (by kernel_rfl) ?_
   apply NDr.any
   ·intro H'
    exact ⟨rfl, rfl⟩
   apply NDr.rd [0]
   ·intro fH TH
    exact ⟨rfl, rfl⟩
   apply NDr.any
   ·intro H'
    exact ⟨rfl, rfl⟩
   refine NDr.w _ ?_
   refine NP.mk (by kernel_rfl) ?_
   exact NRet.mk [] rfl (NFrz.mk (out.map txnA) (by simp) (by rw [List.drop_zero, List.take_of_length_le (by simp)]) ⟨.refl _, rfl⟩)
/-- What is left of a list of which some are gone. -/
def rem : List Txn → List Bool → List Txn
 | t :: l, g :: gs => if g then rem l gs else t :: rem l gs
 | _, _ => []
theorem rem_rep : ∀ l : List Txn, rem l (List.replicate l.length false) = l
 | [] => rfl
 | t :: l => by
  show rem (t :: l) (false :: List.replicate l.length false) = _
  unfold rem
  rw [if_neg (by simp), rem_rep l]
theorem rem_none {p : Txn → Bool} : ∀ {l : List Txn} {gs : List Bool}, (∀ (j : Nat) (x : Txn), l[j]? = some x → gs[j]? = some true ∨ p x = false) → (rem l gs).find? p = none
 | [], _, _ => by simp [rem]
 | y :: l, [], _ => by simp [rem]
 | y :: l, g :: gs, h => by
  have ih := rem_none (p := p) (l := l) (gs := gs) fun j x hx => by simpa using h (j + 1) x (by simpa using hx)
  have h0 := h 0 y (by simp)
  unfold rem
  cases g with
  | true => simpa using ih
  | false =>
   have : p y = false := by simpa using h0
   simp [List.find?_cons, this]
   simpa using ih
end Go.Bv
namespace Go.Bv
set_option linter.unusedSimpArgs false
set_option linter.unusedVariables false
set_option maxHeartbeats 4000000
open Go Go.Proofs
theorem take_eq_next {α : Type} {a b : List α} {i : Nat} (ht : a.take i = b.take i) (hia : i < a.length) (hib : i < b.length) (h : a[i] = b[i]) : a.take (i + 1) = b.take (i + 1) := by
 rw [List.take_succ_eq_append_getElem hia, List.take_succ_eq_append_getElem hib, ht, h]
theorem take_eq_end {α : Type} {a b : List α} (hl : a.length = b.length) (ht : a.take a.length = b.take a.length) : a = b := by
 rwa [List.take_length, hl, List.take_length] at ht
theorem txn_dec (a b : Txn) : decide (a = b) = (decide (a.node = b.node) && (decide (a.seq = b.seq) && (decide (a.deps = b.deps) && decide (a.effs = b.effs)))) := by
 rw [Bool.eq_iff_iff]; simp [Txn.ext_iff]
theorem dot_dec (a b : Dot) : decide (a = b) = (decide (a.node = b.node) && (decide (a.seq = b.seq) && decide (a.at' = b.at'))) := by
 rw [Bool.eq_iff_iff]; simp [Dot.ext_iff]
theorem sameDots_walk (a b : List Dot) (ha : a.length ≤ 2 ^ 40) : ACalls Tryz.prog Nm.ref10_SameDots [dotsA a, dotsA b] [] (.bool (decide (a = b))) [] := by
 refine ACalls_of tab (dr_snd tab mixed) Nm.ref10_SameDots_h rfl (by kernel_rfl) (Nat.le_of_ble_eq_true rfl) rfl ?_
 by_cases hl : a.length = b.length
 ·refine ND.yes (by (simp only [zLm, zLa, zLr, zLc, zLn, zLt, zLd]; omega)) ?_
  refine NLoop.mk [] [0, 1, 5] (fun m vs H => ∃ i, i ≤ a.length ∧ m = a.length - i ∧ a.take i = b.take i ∧ H = [] ∧ vs = [dotsA a, dotsA b, i64 i]) rfl ?_ ?_
  ·exact Canon.mk [] rfl ⟨a.length, 0, Nat.zero_le _, rfl, rfl, rfl, rfl⟩
  ·rintro m vs H ⟨i, hi, rfl, ht, rfl, rfl⟩
   by_cases hil : i < a.length
   ·have hib : i < b.length := by omega
    refine ND.yes (by (simp only [zLm, zLa, zLr, zLc, zLn, zLt, zLd]; omega)) ?_
    refine NP.mk (by kernel_rfl) ?_
    refine NDr.w _ ?_
    refine NDr.w _ ?_
    apply NDr.pure
    ·refine NP.mk (by omega) ?_
     refine NG.mapN (by omega) ?_
     exact ⟨rfl, rfl⟩
    refine NDr.w _ ?_
    refine NDr.w _ ?_
    refine NDr.w _ ?_
    apply NDr.pure
    ·refine NP.mk (by omega) ?_
     refine NG.mapN (by omega) ?_
     exact ⟨rfl, rfl⟩
    refine NDr.w _ ?_
    apply NDr.pure
    ·exact NB.det'
    refine NP.mk (by kernel_rfl) ?_
    refine NB.mk (fun hk3 => ?_) (fun hk3 => ?_)
    ·refine NRet.boolE (b := false) ?_ (NRet.mk [] rfl ⟨.refl _, rfl⟩)
     grind
    refine NW.w ?_
    exact Canon.mk [] rfl ⟨a.length - (i + 1), by omega, i + 1, by omega, rfl, take_eq_next ht hil hib (by grind [Dot.ext_iff]), rfl, rfl⟩
   ·have : i = a.length := by omega
    subst this
    rw [decide_eq_true (take_eq_end hl ht)]
    refine ND.no (by (simp only [zLm, zLa, zLr, zLc, zLn, zLt, zLd]; omega)) ?_
    exact NRet.mk [] rfl ⟨.refl _, rfl⟩
 ·rw [decide_eq_false fun e => hl (by rw [e])]
  refine ND.no (by (simp only [zLm, zLa, zLr, zLc, zLn, zLt, zLd]; omega)) ?_
  exact NRet.mk [] rfl ⟨.refl _, rfl⟩
theorem same10_walk (a b : List Eff) (ha : a.length ≤ 2 ^ 40) (hx : ∀ e ∈ a, smEff e) : ACalls Tryz.prog Nm.ref10_Same [effsA a, effsA b] [] (.bool (decide (a = b))) [] := by
 refine ACalls_of tab (dr_snd2 tab mixed) Nm.ref10_Same_h rfl (by kernel_rfl) (Nat.le_of_ble_eq_true rfl) rfl ?_
 by_cases hl : a.length = b.length
 ·refine ND.yes (by (simp only [zLm, zLa, zLr, zLc, zLn, zLt, zLd]; omega)) ?_
  refine NLoop.mk [] [0, 1, 5] (fun m vs H => ∃ i, i ≤ a.length ∧ m = a.length - i ∧ a.take i = b.take i ∧ H = [] ∧ vs = [effsA a, effsA b, i64 i]) rfl ?_ ?_
  ·exact Canon.mk [] rfl ⟨a.length, 0, Nat.zero_le _, rfl, rfl, rfl, rfl⟩
  ·rintro m vs H ⟨i, hi, rfl, ht, rfl, rfl⟩
   by_cases hil : i < a.length
   ·have hib : i < b.length := by omega
    have hd := sameDots_walk a[i].drops b[i].drops (hx _ (List.getElem_mem hil)).2.2.2
    refine ND.yes (by (simp only [zLm, zLa, zLr, zLc, zLn, zLt, zLd]; omega)) ?_
    refine NP.mk (by kernel_rfl) ?_
    refine NDr.w _ ?_
    refine NDr.w _ ?_
    apply NDr.pure
    ·refine NP.mk (by omega) ?_
     refine NG.mapN (by omega) ?_
     exact ⟨rfl, rfl⟩
    refine NDr.w _ ?_
    refine NDr.w _ ?_
    refine NDr.w _ ?_
    apply NDr.pure
    ·refine NP.mk (by omega) ?_
     refine NG.mapN (by omega) ?_
     exact ⟨rfl, rfl⟩
    refine NDr.w _ ?_
    apply NDr.efw []
    ·exact ⟨rfl, rfl⟩
    ·repeat (first | exact True.intro | refine ⟨by first | exact rfl | exact True.intro, ?_⟩)
    apply NDr.efw []
    ·exact ⟨rfl, rfl⟩
    ·repeat (first | exact True.intro | refine ⟨by first | exact rfl | exact True.intro, ?_⟩)
    apply NDr.efw [0]
    ·exact ⟨rfl, rfl⟩
    ·repeat (first | exact True.intro | refine ⟨by first | exact rfl | exact True.intro, ?_⟩)
    apply NDr.efw [1]
    ·exact ⟨rfl, rfl⟩
    ·repeat (first | exact True.intro | refine ⟨by first | exact rfl | exact True.intro, ?_⟩)
    refine NP.mk (by kernel_rfl) ?_
    refine NB.dec (fun hk2 => ?_) (fun hk2 => ?_)
    rotate_left
    ·refine NRet.boolE (b := false) ?_ (NRet.mk [] rfl ⟨.refl _, rfl⟩)
     grind
    refine NB.dec (fun hk3 => ?_) (fun hk3 => ?_)
    rotate_left
    ·refine NRet.boolE (b := false) ?_ (NRet.mk [] rfl ⟨.refl _, rfl⟩)
     grind
    refine NB.dec (fun hk4 => ?_) (fun hk4 => ?_)
    rotate_left
    ·refine NRet.boolE (b := false) ?_ (NRet.mk [] rfl ⟨.refl _, rfl⟩)
     grind
    refine NB.dec (fun hk5 => ?_) (fun hk5 => ?_)
    rotate_left
    ·refine NRet.boolE (b := false) ?_ (NRet.mk [] rfl ⟨.refl _, rfl⟩)
     grind
    refine NB.dec (fun hk6 => ?_) (fun hk6 => ?_)
    rotate_left
    ·refine NRet.boolE (b := false) ?_ (NRet.mk [] rfl ⟨.refl _, rfl⟩)
     grind
    refine NB.dec (fun hk7 => ?_) (fun hk7 => ?_)
    rotate_left
    ·refine NRet.boolE (b := false) ?_ (NRet.mk [] rfl ⟨.refl _, rfl⟩)
     grind
    refine NCall.call (hd) rfl rfl ?_
    refine NB.mk (fun hk8 => ?_) (fun hk8 => ?_)
    rotate_left
    ·refine NRet.boolE (b := false) ?_ (NRet.mk [] rfl ⟨.refl _, rfl⟩)
     grind
    refine NW.w ?_
    exact Canon.mk [] rfl ⟨a.length - (i + 1), by omega, i + 1, by omega, rfl, take_eq_next ht hil hib (by grind [Eff.ext_iff]), rfl, rfl⟩
   ·have : i = a.length := by omega
    subst this
    rw [decide_eq_true (take_eq_end hl ht)]
    refine ND.no (by (simp only [zLm, zLa, zLr, zLc, zLn, zLt, zLd]; omega)) ?_
    exact NRet.mk [] rfl ⟨.refl _, rfl⟩
 ·rw [decide_eq_false fun e => hl (by rw [e])]
  refine ND.no (by (simp only [zLm, zLa, zLr, zLc, zLn, zLt, zLd]; omega)) ?_
  exact NRet.mk [] rfl ⟨.refl _, rfl⟩
theorem same13_walk (a b : Txn) (ha : smTxn a) : ACalls Tryz.prog Nm.ref13_Same [txnA a, txnA b] [] (.bool (decide (a = b))) [] := by
 refine ACalls_of tab (dr_snd tab mixed) Nm.ref13_Same_h rfl (by kernel_rfl) (Nat.le_of_ble_eq_true rfl) rfl ?_
 obtain ⟨h1, h2, h3, h4⟩ := ha
 have hv := equal7_walk a.deps b.deps (by omega)
 have he := same10_walk a.effs b.effs (by omega) h4
 rw [txn_dec]
 refine NB.dec (fun hk1 => ?_) (fun hk1 => ?_)
 ·refine NB.dec (fun hk2 => ?_) (fun hk2 => ?_)
  ·refine NCall.call (hv) rfl rfl ?_
   refine NB.mk (fun hk3 => ?_) (fun hk3 => ?_)
   ·refine NB.yes (by assumption) ?_
    refine NB.yes (by assumption) ?_
    refine NB.yes (by assumption) ?_
    refine NB.yes (by assumption) ?_
    refine NCall.call (he) rfl rfl ?_
    refine NB.yes (by assumption) ?_
    refine NRet.boolE ?_ (NRet.mk [] rfl ⟨.refl _, rfl⟩)
    (simp [*]; done)
   refine NB.no (by assumption) ?_
   refine NB.no (by assumption) ?_
   refine NB.no (by assumption) ?_
   refine NB.no (by assumption) ?_
   refine NB.no (by assumption) ?_
   refine NRet.boolE (b := false) ?_ (NRet.mk [] rfl ⟨.refl _, rfl⟩)
   (simp [*]; done)
  refine NRet.boolE (b := false) ?_ (NRet.mk [] rfl ⟨.refl _, rfl⟩)
  (simp [*]; done)
 refine NRet.boolE (b := false) ?_ (NRet.mk [] rfl ⟨.refl _, rfl⟩)
 (simp [*]; done)
theorem sameAll_walk (a b : List Txn) (ha : a.length ≤ 2 ^ 40) (hx : ∀ e ∈ a, smTxn e) : ACalls Tryz.prog Nm.ref13_SameAll [txnsA a, txnsA b] [] (.bool (decide (a = b))) [] := by
 refine ACalls_of tab (dr_snd tab mixed) Nm.ref13_SameAll_h rfl (by kernel_rfl) (Nat.le_of_ble_eq_true rfl) rfl ?_
 by_cases hl : a.length = b.length
 ·refine ND.yes (by (simp only [zLm, zLa, zLr, zLc, zLn, zLt, zLd]; omega)) ?_
  refine NLoop.mk [] [0, 1, 5] (fun m vs H => ∃ i, i ≤ a.length ∧ m = a.length - i ∧ a.take i = b.take i ∧ H = [] ∧ vs = [txnsA a, txnsA b, i64 i]) rfl ?_ ?_
  ·exact Canon.mk [] rfl ⟨a.length, 0, Nat.zero_le _, rfl, rfl, rfl, rfl⟩
  ·rintro m vs H ⟨i, hi, rfl, ht, rfl, rfl⟩
   by_cases hil : i < a.length
   ·have hib : i < b.length := by omega
    have hd := same13_walk a[i] b[i] (hx _ (List.getElem_mem hil))
    by_cases he : a[i] = b[i]
    ·rw [decide_eq_true he] at hd
     refine ND.yes (by (simp only [zLm, zLa, zLr, zLc, zLn, zLt, zLd]; omega)) ?_
     refine NP.mk (by kernel_rfl) ?_
     refine NDr.w _ ?_
     refine NDr.w _ ?_
     apply NDr.pure
     ·refine NP.mk (by omega) ?_
      refine NG.mapN (by omega) ?_
      exact ⟨rfl, rfl⟩
     refine NDr.w _ ?_
     refine NDr.w _ ?_
     refine NDr.w _ ?_
     apply NDr.pure
     ·refine NP.mk (by omega) ?_
      refine NG.mapN (by omega) ?_
      exact ⟨rfl, rfl⟩
     refine NDr.w _ ?_
     apply NDr.pure
     ·refine NCall.call (hd) rfl rfl ?_
      exact ⟨rfl, rfl⟩
     refine NDr.w _ ?_
     refine NP.mk (by kernel_rfl) ?_
     refine NW.w ?_
     exact Canon.mk [] rfl ⟨a.length - (i + 1), by omega, i + 1, by omega, rfl, take_eq_next ht hil hib he, rfl, rfl⟩
    ·rw [decide_eq_false he] at hd
     rw [decide_eq_false fun e => he (by simp only [e])]
     refine ND.yes (by (simp only [zLm, zLa, zLr, zLc, zLn, zLt, zLd]; omega)) ?_
     refine NP.mk (by kernel_rfl) ?_
     refine NDr.w _ ?_
     refine NDr.w _ ?_
     apply NDr.pure
     ·refine NP.mk (by omega) ?_
      refine NG.mapN (by omega) ?_
      exact ⟨rfl, rfl⟩
     refine NDr.w _ ?_
     refine NDr.w _ ?_
     refine NDr.w _ ?_
     apply NDr.pure
     ·refine NP.mk (by omega) ?_
      refine NG.mapN (by omega) ?_
      exact ⟨rfl, rfl⟩
     refine NDr.w _ ?_
     apply NDr.pure
     ·refine NCall.call (hd) rfl rfl ?_
      exact ⟨rfl, rfl⟩
     refine NDr.w _ ?_
     refine NP.mk (by kernel_rfl) ?_
     exact NRet.mk [] rfl ⟨.refl _, rfl⟩
   ·have : i = a.length := by omega
    subst this
    rw [decide_eq_true (take_eq_end hl ht)]
    refine ND.no (by (simp only [zLm, zLa, zLr, zLc, zLn, zLt, zLd]; omega)) ?_
    exact NRet.mk [] rfl ⟨.refl _, rfl⟩
 ·rw [decide_eq_false fun e => hl (by rw [e])]
  refine ND.no (by (simp only [zLm, zLa, zLr, zLc, zLn, zLt, zLd]; omega)) ?_
  exact NRet.mk [] rfl ⟨.refl _, rfl⟩
theorem copy10_walk (l : List Eff) (hl : l.length ≤ 2 ^ 30) (hx : ∀ e ∈ l, smEff e) : ACalls Tryz.prog Nm.ref10_Copy [effsA l] [] (effsA l) [] := by
 refine ACalls_of tab (dr_snd tab mixed) Nm.ref10_Copy_h rfl (by kernel_rfl) (Nat.le_of_ble_eq_true rfl) rfl ?_
 refine NLoop.mk [(3, .agg 7)] [0, 3, 4] (fun m vs H => ∃ i, i ≤ l.length ∧ m = l.length - i ∧ H = [.row .vrow (.agg 7) ((l.take i).map effA)] ∧ vs = [effsA l, .own 0 0 ((l.take i).map effA).length, i64 i]) rfl ?_ ?_
 ·exact Canon.mk [0] rfl ⟨l.length, 0, Nat.zero_le _, rfl, rfl, rfl⟩
 ·rintro m vs H ⟨i, hi, rfl, rfl, rfl⟩
  by_cases hil : i < l.length
  ·have hs := snocMap effA l hil
   obtain ⟨x1, x2, x3, x4⟩ := hx _ (List.getElem_mem hil)
   refine ND.yes (by (simp only [zLm, zLa, zLr, zLc, zLn, zLt, zLd]; omega)) ?_
   refine NP.mk (by omega) ?_
   refine NG.mapN (by omega) ?_
   refine NFz.own ?_
   refine NApp.roA rfl (by simp; omega) ?_
   refine NFz.own ?_
   refine NApp.endA rfl (by simp; omega) ?_
   refine NW.w ?_
   exact Canon.mk [3] rfl ⟨l.length - (i + 1), by omega, i + 1, by omega, rfl, by rw [hs]; rfl, by rw [hs]; rfl⟩
  ·have : i = l.length := by omega
   subst this
   rw [List.take_length]
   refine ND.no (by (simp only [zLm, zLa, zLr, zLc, zLn, zLt, zLd]; omega)) ?_
   exact NRet.mk [] rfl (NFrz.mk (l.map effA) (by simp) (by rw [List.drop_zero, List.take_of_length_le (by simp)]) ⟨.refl _, rfl⟩)
theorem copy13_own (l : List Txn) (hl : l.length ≤ 2 ^ 30) (hx : ∀ t ∈ l, smTxn t) : ACalls Tryz.prog Nm.ref13_Copy [txnsA l] [] (.own 0 0 l.length) [.row .vrow (.agg 4) (l.map txnA)] := by
 refine ACalls_of tab (dr_snd tab mixed) Nm.ref13_Copy_h rfl (by kernel_rfl) (Nat.le_of_ble_eq_true rfl) rfl ?_
 refine NLoop.mk [(3, .agg 4)] [0, 3, 4] (fun m vs H => ∃ i, i ≤ l.length ∧ m = l.length - i ∧ H = [.row .vrow (.agg 4) ((l.take i).map txnA)] ∧ vs = [txnsA l, .own 0 0 ((l.take i).map txnA).length, i64 i]) rfl ?_ ?_
 ·exact Canon.mk [0] rfl ⟨l.length, 0, Nat.zero_le _, rfl, rfl, rfl⟩
 ·rintro m vs H ⟨i, hi, rfl, rfl, rfl⟩
  by_cases hil : i < l.length
  ·have hs := snocMap txnA l hil
   obtain ⟨x1, x2, x3, x4⟩ := hx _ (List.getElem_mem hil)
   have h1 := copy7_walk l[i].deps (by omega)
   have h2 := copy10_walk l[i].effs (by omega) x4
   refine ND.yes (by (simp only [zLm, zLa, zLr, zLc, zLn, zLt, zLd]; omega)) ?_
   refine NP.mk (by omega) ?_
   refine NG.mapN (by omega) ?_
   refine NCall.call (h1) rfl rfl ?_
   refine NCall.call (h2) rfl rfl ?_
   refine NFz.own ?_
   refine NApp.endA rfl (by simp; omega) ?_
   refine NW.w ?_
   exact Canon.mk [2] rfl ⟨l.length - (i + 1), by omega, i + 1, by omega, rfl, by rw [hs]; rfl, by rw [hs]; rfl⟩
  ·have : i = l.length := by omega
   subst this
   rw [List.take_length]
   refine ND.no (by (simp only [zLm, zLa, zLr, zLc, zLn, zLt, zLd]; omega)) ?_
   exact NRet.mk [0] rfl ⟨by rw [List.length_map]; exact .refl _, rfl⟩
theorem copy13_walk (l : List Txn) (hl : l.length ≤ 2 ^ 30) (hx : ∀ t ∈ l, smTxn t) : ACalls Tryz.prog Nm.ref13_Copy [txnsA l] [] (txnsA l) [] := (copy13_own l hl hx).drop (dropL (by simp))
def shortE (e : Eff) : Bool := decide (e.key.length ≤ 300 ∧ e.field.length ≤ 300 ∧ e.elem.length ≤ 300 ∧ e.drops.length ≤ 70)
def shortEs (l : List Eff) : Bool := decide (l.length ≤ 20) && l.all shortE
def shortT (l : List Txn) : Bool := decide (l.length ≤ 24) && l.all fun t => decide (t.deps.length ≤ 60) && shortEs t.effs
theorem short10_walk (l : List Eff) (hl : l.length ≤ 2 ^ 47) (hx : ∀ e ∈ l, okEff e) : ACalls Tryz.prog Nm.ref10_Short [effsA l] [] (.bool (shortEs l)) [] := by
 refine ACalls_of tab (dr_snd tab mixed) Nm.ref10_Short_h rfl (by kernel_rfl) (Nat.le_of_ble_eq_true rfl) rfl ?_
 unfold shortEs
 by_cases h : l.length ≤ 20
 ·rw [decide_eq_true h, Bool.true_and]
  refine ND.no (by (simp only [zLm, zLa, zLr, zLc, zLn, zLt, zLd]; omega)) ?_
  refine NLoop.mk [] [0, 3] (fun m vs H => ∃ i, i ≤ l.length ∧ m = l.length - i ∧ (∀ x ∈ l.take i, shortE x = true) ∧ H = [] ∧ vs = [effsA l, i64 i]) rfl ?_ ?_
  ·exact Canon.mk [] rfl ⟨l.length, 0, Nat.zero_le _, rfl, by simp, rfl, rfl⟩
  ·rintro m vs H ⟨i, hi, rfl, ht, rfl, rfl⟩
   by_cases hil : i < l.length
   ·obtain ⟨f1, f2⟩ := all_step hil ht
    obtain ⟨_, x1, x2, _, x3, _, x4, _⟩ := hx _ (List.getElem_mem hil)
    have x1 := reach_lt x1
    have x2 := reach_lt x2
    have x3 := reach_lt x3
    have x4 := reach_lt x4
    cases hp : shortE l[i] with
    | true =>
     have hp' := hp
     unfold shortE at hp'
     simp only [decide_eq_true_eq] at hp'
     refine ND.yes (by (simp only [zLm, zLa, zLr, zLc, zLn, zLt, zLd]; omega)) ?_
     refine NP.mk (by omega) ?_
     refine NG.mapN (by omega) ?_
     refine ND.no (by omega) ?_
     refine NP.mk (by omega) ?_
     refine NG.mapN (by omega) ?_
     refine ND.no (by omega) ?_
     refine NP.mk (by omega) ?_
     refine NG.mapN (by omega) ?_
     refine ND.no (by omega) ?_
     refine NP.mk (by omega) ?_
     refine NG.mapN (by omega) ?_
     refine ND.no (by (simp only [zLm, zLa, zLr, zLc, zLn, zLt, zLd]; omega)) ?_
     refine NW.w ?_
     exact Canon.mk [] rfl ⟨l.length - (i + 1), by omega, i + 1, by omega, rfl, f2 hp, rfl, rfl⟩
    | false =>
     rw [f1 hp]
     have hp' := hp
     unfold shortE at hp'
     simp only [decide_eq_false_iff_not] at hp'
     refine ND.yes (by (simp only [zLm, zLa, zLr, zLc, zLn, zLt, zLd]; omega)) ?_
     refine NP.mk (by omega) ?_
     refine NG.mapN (by omega) ?_
     refine NB.dec (fun hk2 => ?_) (fun hk2 => ?_)
     ·exact NRet.mk [] rfl ⟨.refl _, rfl⟩
     refine NP.mk (by omega) ?_
     refine NG.mapN (by omega) ?_
     refine NB.dec (fun hk3 => ?_) (fun hk3 => ?_)
     ·exact NRet.mk [] rfl ⟨.refl _, rfl⟩
     refine NP.mk (by omega) ?_
     refine NG.mapN (by omega) ?_
     refine NB.dec (fun hk4 => ?_) (fun hk4 => ?_)
     ·exact NRet.mk [] rfl ⟨.refl _, rfl⟩
     refine NP.mk (by omega) ?_
     refine NG.mapN (by omega) ?_
     refine ND.yes (by (simp only [zLm, zLa, zLr, zLc, zLn, zLt, zLd]; omega)) ?_
     exact NRet.mk [] rfl ⟨.refl _, rfl⟩
   ·have : i = l.length := by omega
    subst this
    rw [all_end ht]
    refine ND.no (by (simp only [zLm, zLa, zLr, zLc, zLn, zLt, zLd]; omega)) ?_
    exact NRet.mk [] rfl ⟨.refl _, rfl⟩
 ·rw [decide_eq_false h, Bool.false_and]
  refine ND.yes (by (simp only [zLm, zLa, zLr, zLc, zLn, zLt, zLd]; omega)) ?_
  exact NRet.mk [] rfl ⟨.refl _, rfl⟩
theorem short13_walk (l : List Txn) (hl : l.length ≤ 2 ^ 47) (hx : ∀ e ∈ l, okTxn e) : ACalls Tryz.prog Nm.ref13_Short [txnsA l] [] (.bool (shortT l)) [] := by
 refine ACalls_of tab (dr_snd tab mixed) Nm.ref13_Short_h rfl (by kernel_rfl) (Nat.le_of_ble_eq_true rfl) rfl ?_
 unfold shortT
 by_cases h : l.length ≤ 24
 ·rw [decide_eq_true h, Bool.true_and]
  refine ND.no (by (simp only [zLm, zLa, zLr, zLc, zLn, zLt, zLd]; omega)) ?_
  refine NLoop.mk [] [0, 3] (fun m vs H => ∃ i, i ≤ l.length ∧ m = l.length - i ∧ (∀ x ∈ l.take i, (decide (x.deps.length ≤ 60) && shortEs x.effs) = true) ∧ H = [] ∧ vs = [txnsA l, i64 i]) rfl ?_ ?_
  ·exact Canon.mk [] rfl ⟨l.length, 0, Nat.zero_le _, rfl, by simp, rfl, rfl⟩
  ·rintro m vs H ⟨i, hi, rfl, ht, rfl, rfl⟩
   by_cases hil : i < l.length
   ·obtain ⟨f1, f2⟩ := all_step hil ht
    obtain ⟨_, _, ⟨x1, _⟩, ⟨x2, x3⟩⟩ := hx _ (List.getElem_mem hil)
    have x1 := reach_lt x1
    have x2 := reach_lt x2
    have hs := short10_walk l[i].effs (by omega) x3
    by_cases hd : l[i].deps.length ≤ 60
    ·cases hp : shortEs l[i].effs with
     | true =>
      rw [hp] at hs
      refine ND.yes (by (simp only [zLm, zLa, zLr, zLc, zLn, zLt, zLd]; omega)) ?_
      refine NP.mk (by omega) ?_
      refine NG.mapN (by omega) ?_
      refine ND.no (by (simp only [zLm, zLa, zLr, zLc, zLn, zLt, zLd]; omega)) ?_
      refine NP.mk (by omega) ?_
      refine NG.mapN (by omega) ?_
      refine NCall.call (hs) rfl rfl ?_
      refine NW.w ?_
      exact Canon.mk [] rfl ⟨l.length - (i + 1), by omega, i + 1, by omega, rfl, f2 (by rw [decide_eq_true hd, hp]; rfl), rfl, rfl⟩
     | false =>
      rw [hp] at hs
      rw [f1 (by rw [hp, Bool.and_false])]
      refine ND.yes (by (simp only [zLm, zLa, zLr, zLc, zLn, zLt, zLd]; omega)) ?_
      refine NP.mk (by omega) ?_
      refine NG.mapN (by omega) ?_
      refine ND.no (by (simp only [zLm, zLa, zLr, zLc, zLn, zLt, zLd]; omega)) ?_
      refine NP.mk (by omega) ?_
      refine NG.mapN (by omega) ?_
      refine NCall.call (hs) rfl rfl ?_
      exact NRet.mk [] rfl ⟨.refl _, rfl⟩
    ·rw [f1 (by rw [decide_eq_false hd]; rfl)]
     refine ND.yes (by (simp only [zLm, zLa, zLr, zLc, zLn, zLt, zLd]; omega)) ?_
     refine NP.mk (by omega) ?_
     refine NG.mapN (by omega) ?_
     refine ND.yes (by (simp only [zLm, zLa, zLr, zLc, zLn, zLt, zLd]; omega)) ?_
     exact NRet.mk [] rfl ⟨.refl _, rfl⟩
   ·have : i = l.length := by omega
    subst this
    rw [all_end ht]
    refine ND.no (by (simp only [zLm, zLa, zLr, zLc, zLn, zLt, zLd]; omega)) ?_
    exact NRet.mk [] rfl ⟨.refl _, rfl⟩
 ·rw [decide_eq_false h, Bool.false_and]
  refine ND.yes (by (simp only [zLm, zLa, zLr, zLc, zLn, zLt, zLd]; omega)) ?_
  exact NRet.mk [] rfl ⟨.refl _, rfl⟩
end Go.Bv
