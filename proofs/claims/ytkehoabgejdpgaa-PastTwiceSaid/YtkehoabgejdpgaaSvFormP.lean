/- Part of the lift: an abstract walk of the program's code, proved sound, and what it shows of this program. -/
import Derived.Test.YtkehoabgejdpgaaSvTyp
namespace Go.Bv
open Go Go.Proofs

-- what is formed, plainly
def okc (c : UInt8) : Bool := decide (c.toNat = 47) || decide (48 ≤ c.toNat ∧ c.toNat ≤ 57) || decide (97 ≤ c.toNat ∧ c.toNat ≤ 122)
def pref (s : List UInt8) : Bool := decide (s.length ≤ 16) && s.all okc
def keyB (s : List UInt8) : Bool := decide (s ≠ []) && pref s
def dotOk (d : Dot) : Bool := decide (0 ≤ d.node ∧ d.node < 8 ∧ 1 ≤ d.seq ∧ d.seq ≤ 1073741824 ∧ 0 ≤ d.at' ∧ d.at' < 8)
def kindOk (x : Item) : Bool := decide ((x.kind = 1 ∨ x.kind = 2) ∧ x.n = 0 ∨ x.kind = 3 ∧ x.elem = [])
def itemOk (x : Item) : Bool := keyB x.key && (pref x.field && (decide (x.elem.length ≤ 32) && (kindOk x && dotOk x.dot)))
def dlt (a b : Dot) : Bool := decide (a.node < b.node ∨ a.node = b.node ∧ (a.seq < b.seq ∨ a.seq = b.seq ∧ a.at' < b.at'))
/-- Neighbours. -/
def adj {α : Type} (r : α → α → Bool) : List α → Bool
  | [] => true
  | [_] => true
  | x :: y :: t => r x y && adj r (y :: t)
def made (node seq : Int) (e : Eff) : Item := ⟨e.key, e.field, e.kind, e.elem, e.n, ⟨node, seq, e.at'⟩⟩
def dropsOk (l : List Dot) : Bool := decide (l.length ≤ 64) && (l.all dotOk && adj dlt l)
def effOk (node seq : Int) (e : Eff) : Bool := dropsOk e.drops && (if e.kind = 0 then decide (e.drops ≠ [] ∧ e.elem = []) && itemOk (made node seq { e with kind := 1 }) else itemOk (made node seq e))
def ownOk (node seq : Int) (e : Eff) : Bool := e.drops.all fun d => decide (¬ (d.node = node ∧ d.seq = seq ∧ e.at' ≤ d.at'))
def effsOk (node seq : Int) (l : List Eff) : Bool := l.all (fun e => effOk node seq e && ownOk node seq e) && adj (fun a b => decide (a.at' < b.at')) l
def hasB (v : List Int) (node seq : Int) : Bool := decide (1 ≤ seq ∧ seq ≤ vatI v node)
def heardB (l : List Eff) (node seq : Int) (v : List Int) : Bool := l.all fun e => e.drops.all fun d => hasB v d.node d.seq || decide (d.node = node ∧ d.seq = seq)
def vecOk (v : List Int) : Bool := decide (trim v = v) && v.all fun n => decide (n ≤ 1073741824)
def formed (t : Txn) : Bool := decide (0 ≤ t.node ∧ t.node < 8 ∧ 1 ≤ t.seq ∧ t.seq ≤ 1073741824 ∧ t.deps.length ≤ 8 ∧ t.effs.length ≤ 8) &&
  (vecOk t.deps && (decide (vatI t.deps t.node = t.seq - 1) && (effsOk t.node t.seq t.effs && heardB t.effs t.node t.seq t.deps)))

theorem adj_iff {α : Type} (r : α → α → Bool) : ∀ (l : List α), adj r l = true ↔ ∀ (i : Nat) (h : i + 1 < l.length), r l[i] l[i + 1] = true
  | [] => by simp [adj]
  | [_] => by simp [adj]
  | x :: y :: t => by
    rw [adj, Bool.and_eq_true, adj_iff r (y :: t)]
    refine ⟨fun ⟨h1, h2⟩ i hi => ?_, fun h => ⟨h 0 (by simp), fun i hi => h (i + 1) (by simpa using hi)⟩⟩
    cases i with
    | zero => exact h1
    | succ i => exact h2 i (by simpa using hi)
theorem adj_pw {α : Type} {r : α → α → Bool} (ht : ∀ a b c, r a b = true → r b c = true → r a c = true) : ∀ (l : List α), adj r l = true ↔ l.Pairwise (fun a b => r a b = true)
  | [] => by simp [adj]
  | [_] => by simp [adj]
  | x :: y :: t => by
    rw [adj, Bool.and_eq_true, adj_pw ht (y :: t), List.pairwise_cons (a := x)]
    refine ⟨fun ⟨h1, h2⟩ => ⟨fun z hz => ?_, h2⟩, fun ⟨h1, h2⟩ => ⟨h1 y (List.mem_cons_self ..), h2⟩⟩
    rcases List.mem_cons.1 hz with rfl | hz
    · exact h1
    · exact ht _ _ _ h1 ((List.pairwise_cons.1 h2).1 z hz)
theorem dlt_trans (a b c : Dot) (h1 : dlt a b = true) (h2 : dlt b c = true) : dlt a c = true := by
  unfold dlt at *
  simp only [decide_eq_true_eq] at *
  omega
/-- One step of a look at all. -/
theorem all_step {α : Type} {p : α → Bool} {l : List α} {i : Nat} (h : i < l.length) (ht : ∀ x ∈ l.take i, p x = true) : (p l[i] = false → l.all p = false) ∧ (p l[i] = true → ∀ x ∈ l.take (i + 1), p x = true) := by
  refine ⟨fun hp => ?_, fun hp x hx => ?_⟩
  · rw [List.all_eq_false]; exact ⟨l[i], List.getElem_mem h, by simp [hp]⟩
  · rw [List.take_succ_eq_append_getElem h] at hx
    rcases List.mem_append.1 hx with hx | hx
    · exact ht x hx
    · rw [List.mem_singleton.1 hx]; exact hp
theorem all_end {α : Type} {p : α → Bool} {l : List α} (h : ∀ x ∈ l.take l.length, p x = true) : l.all p = true := by
  rw [List.take_length] at h
  exact List.all_eq_true.2 h
end Go.Bv
