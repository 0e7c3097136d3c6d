/- Part of the lift: an abstract walk of the program's code, proved sound, and what it shows of this program. -/
import Derived.Test.YtkehoabgejdpgaaBvWalk
namespace Go.Bv
open Go

def bytes (l : List UInt8) : AV := .list .leaf (l.map u8)

theorem list_of {α : Type} {f : α → AV} : ∀ {l : List AV}, (∀ x ∈ l, ∃ a, x = f a) → ∃ l' : List α, l = l'.map f
  | [], _ => ⟨[], rfl⟩
  | x :: r, h => by
    obtain ⟨a, rfl⟩ := h x (by simp)
    obtain ⟨l', rfl⟩ := list_of (l := r) fun y hy => h y (by simp [hy])
    exact ⟨a :: l', rfl⟩
theorem list_of' {α : Type} {f : α → AV} {ok : α → Prop} : ∀ {l : List AV}, (∀ x ∈ l, ∃ a, x = f a ∧ ok a) → ∃ l' : List α, l = l'.map f ∧ ∀ a ∈ l', ok a
  | [], _ => ⟨[], rfl, fun _ h => by cases h⟩
  | x :: r, h => by
    obtain ⟨a, rfl, ha⟩ := h x (by simp)
    obtain ⟨l', rfl, hl⟩ := list_of' (l := r) fun y hy => h y (by simp [hy])
    exact ⟨a :: l', rfl, fun b hb => by rcases List.mem_cons.1 hb with rfl | hb <;> first | exact ha | exact hl b hb⟩

section
variable {P : Program} {n : Nat} {t e : TypeId} {xs : List AV}
theorem shOf_int {k : IntKind} (h : P.underlying t = some (.int k)) : shOf P t = .leaf := by unfold shOf; rw [h]; rfl
theorem shOf_bool (h : P.underlying t = some .bool) : shOf P t = .leaf := by unfold shOf; rw [h]; rfl
theorem shOf_str (h : P.underlying t = some .string) : shOf P t = .leaf := by unfold shOf; rw [h]; rfl
theorem shOf_slice (h : P.underlying t = some (.slice e)) : shOf P t = .leaf := by unfold shOf; rw [h]; rfl
theorem shOf_struct {fs : Array Field} (h : P.underlying t = some (.struct fs)) : shOf P t = .agg (P.cellsOf t) := by unfold shOf; rw [h]; rfl

theorem ty_int {k : IntKind} (h : TyC P n t xs) (ht : P.underlying t = some (.int k)) : ∃ z, xs = [.int k z] ∧ k.min ≤ z ∧ z ≤ k.max := by
  cases n with
  | zero => exact h.elim
  | succ n => simp only [TyC, ht] at h; exact h
theorem ty_bool (h : TyC P n t xs) (ht : P.underlying t = some .bool) : ∃ b, xs = [.bool b] := by
  cases n with
  | zero => exact h.elim
  | succ n => simp only [TyC, ht] at h; exact h
theorem ty_str (h : TyC P n t xs) (ht : P.underlying t = some .string) : ∃ s : List UInt8, xs = [.str s] ∧ s.length ≤ reachBytes := by
  cases n with
  | zero => exact h.elim
  | succ n => simp only [TyC, ht] at h; exact h
theorem ty_slice (h : TyC P n t xs) (ht : P.underlying t = some (.slice e)) : ∃ l, xs = [.list (shOf P e) l] ∧ l.length * P.bytesOf e ≤ reachBytes ∧ ∀ x ∈ l, ∃ xs, TyC P (n - 1) e xs ∧ x = mkA (shOf P e) xs := by
  cases n with
  | zero => exact h.elim
  | succ n => simp only [TyC, ht] at h; exact h
theorem ty_struct {fs : Array Field} (h : TyC P n t xs) (ht : P.underlying t = some (.struct fs)) : xs.length = P.cellsOf t ∧ ∀ f ∈ fs.toList, TyC P (n - 1) f.type ((xs.drop f.offset).take (P.cellsOf f.type)) := by
  cases n with
  | zero => exact h.elim
  | succ n => simp only [TyC, ht] at h; exact h

theorem ty_bytes (h : TyC P n t xs) (ht : P.underlying t = some (.slice e)) (he : P.underlying e = some (.int .u8)) (hb : P.bytesOf e = 1) : ∃ l : List UInt8, xs = [bytes l] ∧ l.length ≤ reachBytes := by
  obtain ⟨l, rfl, hl, hx⟩ := ty_slice h ht
  rw [shOf_int he] at hx ⊢
  have : ∀ x ∈ l, ∃ b : UInt8, x = u8 b := fun x hxl => by
    obtain ⟨ys, hy, rfl⟩ := hx x hxl
    obtain ⟨z, rfl, h1, h2⟩ := ty_int hy he
    refine ⟨UInt8.ofNat z.toNat, ?_⟩
    have h1 : (0 : Int) ≤ z := h1
    have h2 : z ≤ 255 := h2
    simp only [mkA, List.headD_cons, u8, AV.int.injEq, true_and]
    simp only [UInt8.toNat_ofNat']
    omega
  obtain ⟨l', rfl⟩ := list_of this
  exact ⟨l', rfl, by simpa [hb] using hl⟩
theorem ty_i64 (h : TyC P n t xs) (ht : P.underlying t = some (.int .i64)) : ∃ z : Int, xs = [i64 z] ∧ -9223372036854775808 ≤ z ∧ z < 9223372036854775808 := by
  obtain ⟨z, rfl, h1, h2⟩ := ty_int h ht
  have h1 : -(2 ^ 63 : Int) ≤ z := h1
  have h2 : z ≤ 2 ^ 63 - 1 := h2
  exact ⟨z, rfl, by omega, by omega⟩
theorem ty_u32 (h : TyC P n t xs) (ht : P.underlying t = some (.int .u32)) : ∃ z : BitVec 32, xs = [u32 z] := by
  obtain ⟨z, rfl, h1, h2⟩ := ty_int h ht
  have h1 : (0 : Int) ≤ z := h1
  have h2 : z ≤ 2 ^ 32 - 1 := h2
  refine ⟨BitVec.ofNat 32 z.toNat, ?_⟩
  simp only [u32, List.cons.injEq, AV.int.injEq, true_and, and_true, BitVec.toNat_ofNat]
  omega
theorem ty_u8 (h : TyC P n t xs) (ht : P.underlying t = some (.int .u8)) : ∃ z : UInt8, xs = [u8 z] := by
  obtain ⟨z, rfl, h1, h2⟩ := ty_int h ht
  have h1 : (0 : Int) ≤ z := h1
  have h2 : z ≤ 2 ^ 8 - 1 := h2
  refine ⟨UInt8.ofNat z.toNat, ?_⟩
  simp only [u8, List.cons.injEq, AV.int.injEq, true_and, and_true, UInt8.toNat_ofNat']
  omega
end
theorem reach_lt {n : Nat} (h : n ≤ reachBytes) : n < 2 ^ 47 := Nat.lt_of_le_of_lt h reachBytes_lt

/-- A call, its arguments said otherwise. -/
theorem NCall.eq {P : Program} {f : FuncId} {args args' : List AV} {H : List Blk} {next : AV → List Blk → Prop} (he : args = args') (h : NCall P f args' H next) : NCall P f args H next := he ▸ h
theorem NG.mapN {α : Type} {f : α → AV} {l : List α} {j : Nat} {next : AV → Prop} (h : j < l.length) (hn : next (f l[j])) : NG (l.map f) (Int.toNat (j : Int)) next := NG.map h hn
theorem take_min {α : Type} (l : List α) (n : Nat) : l.take (Int.toNat (min (l.length : Int) (n : Int))) = l.take n := by
  rcases Nat.le_total l.length n with h | h
  · rw [show Int.toNat (min (l.length : Int) (n : Int)) = l.length by omega, List.take_length, List.take_of_length_le h]
  · rw [show Int.toNat (min (l.length : Int) (n : Int)) = n by omega]
theorem cut_map {α : Type} (f : α → AV) (l : List α) (n : Nat) : (l.map f).take (Int.toNat (min ((l.map f).length : Int) (n : Int))) = (l.take n).map f := by
  rw [take_min, List.map_take]

/-- A comparison's answer, for a region whose order is open. -/
theorem NB.det {p : Prop} [Decidable p] {H : List Blk} : ND p (AV.bool true = AV.bool (decide p) ∧ H = H) (AV.bool false = AV.bool (decide p) ∧ H = H) :=
  ND.dec (fun h => ⟨by rw [decide_eq_true h], rfl⟩) (fun h => ⟨by rw [decide_eq_false h], rfl⟩)
theorem NB.det' {p : Prop} [Decidable p] {H : List Blk} : ND p (AV.bool false = AV.bool (!decide p) ∧ H = H) (AV.bool true = AV.bool (!decide p) ∧ H = H) :=
  ND.dec (fun h => ⟨by rw [decide_eq_true h]; rfl, rfl⟩) (fun h => ⟨by rw [decide_eq_false h]; rfl, rfl⟩)
theorem NB.detb {b : Bool} {H : List Blk} : ND (b = true) (AV.bool true = AV.bool b ∧ H = H) (AV.bool false = AV.bool b ∧ H = H) :=
  ND.dec (fun h => ⟨by rw [h], rfl⟩) (fun h => ⟨by simp at h; rw [h], rfl⟩)
theorem NB.detb' {b : Bool} {H : List Blk} : ND (b = true) (AV.bool false = AV.bool (!b) ∧ H = H) (AV.bool true = AV.bool (!b) ∧ H = H) :=
  ND.dec (fun h => ⟨by rw [h]; rfl, rfl⟩) (fun h => ⟨by simp at h; rw [h]; rfl, rfl⟩)
theorem NB.det0 {b : Bool} {H : List Blk} : NB b (AV.bool true = AV.bool b ∧ H = H) (AV.bool false = AV.bool b ∧ H = H) := by cases b <;> exact ⟨rfl, rfl⟩
theorem NB.det0' {b : Bool} {H : List Blk} : NB b (AV.bool false = AV.bool (!b) ∧ H = H) (AV.bool true = AV.bool (!b) ∧ H = H) := by cases b <;> exact ⟨rfl, rfl⟩

theorem TyVs.cons {P : Program} {n : Nat} {t : TypeId} {ts : List TypeId} : ∀ {l : List AV}, TyVs P n (t :: ts) l → ∃ xs l', l = mkA (shOf P t) xs :: l' ∧ TyC P n t xs ∧ TyVs P n ts l'
  | [], h => h.elim
  | _ :: l, ⟨⟨xs, h1, h2⟩, h⟩ => ⟨xs, l, by rw [h2], h1, h⟩
theorem TyVs.nil {P : Program} {n : Nat} : ∀ {l : List AV}, TyVs P n [] l → l = []
  | [], _ => rfl
  | _ :: _, h => h.elim

/-- A call that gets an owned row for good. -/
theorem NCall.frz {P : Program} {f : FuncId} {args args' : List AV} {H : List Blk} {r : AV} {next : AV → List Blk → Prop} (id : Nat) (h : ACalls P f args' [] r []) (hl : LentAs H (· = id) args args') (ha : args'.all AV.noOwn = true) (hr : r.shT (H.set id .dead).length = r) (hn : next r (H.set id .dead)) : NCall P f args H next := by
  refine ⟨r, H.set id .dead, ACalls.freeze id ?_ hl, hn⟩
  have := h.frame ha (H.set id .dead)
  rw [hr] at this; simpa using this
/-- A call over owned rows, with a flat answer. -/
theorem NCall.lend {P : Program} {f : FuncId} {args args' : List AV} {H : List Blk} {r : AV} {next : AV → List Blk → Prop} (h : ACalls P f args' [] r []) (hl : LentAs H (fun _ => True) args args') (ha : args'.all AV.noOwn = true) (hr : r.flat = true) (hn : next r H) : NCall P f args H next :=
  ⟨r, H, h.lend H hl ha hr, hn⟩

end Go.Bv
