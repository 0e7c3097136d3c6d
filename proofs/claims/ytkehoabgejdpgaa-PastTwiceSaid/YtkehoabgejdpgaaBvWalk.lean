/- Part of the lift: an abstract walk of the program's code, proved sound, and what it shows of this program. -/
import Derived.Test.YtkehoabgejdpgaaBvRow
namespace Go.Bv
open Go

-- the knots, as a walk meets them
theorem NB.mk {b : Bool} {T E : Prop} (ht : b = true → T) (he : b = false → E) : NB b T E := by cases b; exact he rfl; exact ht rfl
theorem ND.dec {p : Prop} {T E : Prop} (ht : p → T) (he : ¬p → E) : ND p T E := (Classical.em p).elim (fun h => .yes h (ht h)) (fun h => .no h (he h))
theorem NB.dec {p : Prop} {T E : Prop} (ht : p → T) (he : ¬p → E) : ND p T E := ND.dec ht he
theorem NB.tt {T E : Prop} (h : T) : NB true T E := h
theorem NB.ff {T E : Prop} (h : E) : NB false T E := h
theorem NG.map {α : Type} {f : α → AV} {l : List α} {i : Nat} {next : AV → Prop} (h : i < l.length) (hn : next (f l[i])) : NG (l.map f) i next :=
  ⟨_, by rw [List.getElem?_eq_getElem (by simpa using h), List.getElem_map], hn⟩
theorem NG.mapE {α : Type} {f : α → AV} {l : List α} {i j : Nat} {next : AV → Prop} (e : i = j) (h : j < l.length) (hn : next (f l[j])) : NG (l.map f) i next := by
  subst e; exact NG.map h hn
theorem NG.get {l : List AV} {i : Nat} {next : AV → Prop} (h : i < l.length) (hn : next l[i]) : NG l i next :=
  ⟨_, List.getElem?_eq_getElem h, hn⟩
/-- A call of a contract that owns nothing. -/
theorem NCall.call {P : Program} {f : FuncId} {args : List AV} {H : List Blk} {r : AV} {next : AV → List Blk → Prop} (h : ACalls P f args [] r []) (ha : args.all AV.noOwn = true) (hr : r.shT H.length = r) (hn : next r H) : NCall P f args H next :=
  ⟨r, H, by have := h.frame ha H; rw [hr] at this; simpa using this, hn⟩
/-- A call of a contract, at what it owns. -/
theorem NCall.at {P : Program} {f : FuncId} {args : List AV} {H H' : List Blk} {r : AV} {next : AV → List Blk → Prop} (h : ACalls P f args H r H') (hn : next r H') : NCall P f args H next := ⟨r, H', h, hn⟩

/-- No region draws its order. -/
def noDr : List Oper → Fr → List Blk → (Fr → List Blk → Prop) → Prop := fun _ _ _ _ => False
theorem noDr_snd {P : Program} {n : Nat} : DrSnd P n noDr := fun _ _ _ _ _ _ _ _ _ h => h.elim

-- whole numbers of a kind, by their bits
theorem wrap_u32 (n : Int) : IntKind.wrap .u32 n = n % 4294967296 := by simp [IntKind.wrap, IntKind.bits, IntKind.signed]
theorem wrap_u64 (n : Int) : IntKind.wrap .u64 n = n % 18446744073709551616 := by simp [IntKind.wrap, IntKind.bits, IntKind.signed]
theorem wrap_u8 (n : Int) : IntKind.wrap .u8 n = n % 256 := by simp [IntKind.wrap, IntKind.bits, IntKind.signed]
theorem wrap_i64 (n : Int) (h1 : -9223372036854775808 ≤ n) (h2 : n < 9223372036854775808) : IntKind.wrap .i64 n = n := by
  have e : IntKind.wrap .i64 n = if n % 18446744073709551616 ≥ 9223372036854775808 then n % 18446744073709551616 - 18446744073709551616 else n % 18446744073709551616 := by
    simp [IntKind.wrap, IntKind.bits, IntKind.signed]
  rw [e]
  split <;> omega

theorem NW.i64 {n : Int} {next : Int → Prop} (h1 : -9223372036854775808 ≤ n) (h2 : n < 9223372036854775808) (hn : next n) : NW .i64 n next := ⟨n, (wrap_i64 n h1 h2).symm, hn⟩

def u32 (x : BitVec 32) : AV := .int .u32 x.toNat
def u64 (x : BitVec 64) : AV := .int .u64 x.toNat
def u8 (x : UInt8) : AV := .int .u8 x.toNat
def i64 (n : Int) : AV := .int .i64 n

theorem bitop_u32 (op : BinOp) (f : BitVec 32 → BitVec 32 → BitVec 32) (h : ∀ a b : Int, bitop op .u32 a b = IntKind.wrap .u32 (f (BitVec.ofInt 32 a) (BitVec.ofInt 32 b)).toNat) (x y : BitVec 32) : bitop op .u32 x.toNat y.toNat = (f x y).toNat := by
  rw [h, wrap_u32]
  have e : ∀ x : BitVec 32, BitVec.ofInt 32 (x.toNat : Int) = x := fun x => by apply BitVec.eq_of_toNat_eq; simp
  rw [e, e]
  have := (f x y).isLt
  omega
theorem xor_u32 (x y : BitVec 32) : bitop .xor .u32 x.toNat y.toNat = (x ^^^ y).toNat := bitop_u32 .xor (· ^^^ ·) (fun _ _ => rfl) x y
theorem and_u32 (x y : BitVec 32) : bitop .and .u32 x.toNat y.toNat = (x &&& y).toNat := bitop_u32 .and (· &&& ·) (fun _ _ => rfl) x y
theorem or_u32 (x y : BitVec 32) : bitop .or .u32 x.toNat y.toNat = (x ||| y).toNat := bitop_u32 .or (· ||| ·) (fun _ _ => rfl) x y
theorem xor_u8 (x y : UInt8) : bitop .xor .u8 x.toNat y.toNat = (x ^^^ y).toNat := by
  show IntKind.wrap .u8 ((BitVec.ofInt 8 (x.toNat : Int) ^^^ BitVec.ofInt 8 (y.toNat : Int)).toNat : Int) = _
  rw [wrap_u8]
  have e : ∀ x : UInt8, BitVec.ofInt 8 (x.toNat : Int) = x.toBitVec := fun x => by apply BitVec.eq_of_toNat_eq; simp
  rw [e, e]
  have h : (x ^^^ y).toNat = (x.toBitVec ^^^ y.toBitVec).toNat := rfl
  have := (x.toBitVec ^^^ y.toBitVec).isLt
  omega
theorem bitop_u64 (op : BinOp) (f : BitVec 64 → BitVec 64 → BitVec 64) (h : ∀ a b : Int, bitop op .u64 a b = IntKind.wrap .u64 (f (BitVec.ofInt 64 a) (BitVec.ofInt 64 b)).toNat) (x y : BitVec 64) : bitop op .u64 x.toNat y.toNat = (f x y).toNat := by
  rw [h, wrap_u64]
  have e : ∀ x : BitVec 64, BitVec.ofInt 64 (x.toNat : Int) = x := fun x => by apply BitVec.eq_of_toNat_eq; simp
  rw [e, e]
  have := (f x y).isLt
  omega
theorem xor_u64 (x y : BitVec 64) : bitop .xor .u64 x.toNat y.toNat = (x ^^^ y).toNat := bitop_u64 .xor (· ^^^ ·) (fun _ _ => rfl) x y
theorem and_u64 (x y : BitVec 64) : bitop .and .u64 x.toNat y.toNat = (x &&& y).toNat := bitop_u64 .and (· &&& ·) (fun _ _ => rfl) x y
theorem or_u64 (x y : BitVec 64) : bitop .or .u64 x.toNat y.toNat = (x ||| y).toNat := bitop_u64 .or (· ||| ·) (fun _ _ => rfl) x y
theorem shr_nat (x k : Nat) : (x : Int).fdiv (2 ^ k) = ((x >>> k : Nat) : Int) := by
  rw [Nat.shiftRight_eq_div_pow, Int.fdiv_eq_ediv_of_nonneg _ (by exact_mod_cast Nat.zero_le _)]
  norm_cast
theorem neg_u32 (x : BitVec 32) : IntKind.wrap .u32 (0 - (x.toNat : Int)) = (-x).toNat := by
  rw [wrap_u32, BitVec.toNat_neg]
  have := x.isLt
  omega

theorem conv_u8_u32 (x : UInt8) : IntKind.wrap .u32 (x.toNat : Int) = ((BitVec.ofNat 32 x.toNat).toNat : Int) := by
  rw [wrap_u32, BitVec.toNat_ofNat]
  have := x.toNat_lt
  omega
theorem conv_u8_u64 (x : UInt8) : IntKind.wrap .u64 (x.toNat : Int) = ((BitVec.ofNat 64 x.toNat).toNat : Int) := by
  rw [wrap_u64, BitVec.toNat_ofNat]
  have := x.toNat_lt
  omega
theorem not_u32 (x : BitVec 32) : bitop .xor .u32 (if IntKind.u32.signed = true then -1 else IntKind.u32.max) x.toNat = (~~~ x).toNat := by
  have : (if IntKind.u32.signed = true then (-1 : Int) else IntKind.u32.max) = ((BitVec.allOnes 32).toNat : Int) := by decide
  rw [this, xor_u32, BitVec.allOnes_xor]

end Go.Bv
