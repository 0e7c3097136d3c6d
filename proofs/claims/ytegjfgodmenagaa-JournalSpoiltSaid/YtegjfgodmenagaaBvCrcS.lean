/- Part of the lift: an abstract walk of the program's code, proved sound, and what it shows of this program. -/
import Derived.Test.YtegjfgodmenagaaBvBinS
namespace Go.Bv
open Go

def crcStep (r : BitVec 32) : BitVec 32 := (r >>> 1) ^^^ (0xedb88320 &&& -(r &&& 1))

def crcSteps : Nat → BitVec 32 → BitVec 32
  | 0, r => r
  | n + 1, r => crcSteps n (crcStep r)

def crcByte (r : BitVec 32) (x : UInt8) : BitVec 32 := crcSteps 8 (r ^^^ BitVec.ofNat 32 x.toNat)

def crcMore (s : BitVec 32) (l : List UInt8) : BitVec 32 := ~~~ (l.foldl crcByte (~~~ s))

theorem crcSteps_succ : ∀ (j : Nat) (r : BitVec 32), crcSteps (j + 1) r = crcStep (crcSteps j r)
  | 0, _ => rfl
  | j + 1, r => crcSteps_succ j (crcStep r)

theorem crcStep_int (x : BitVec 32) : bitop .xor .u32 ((x.toNat : Int).fdiv (2 ^ min (Int.toNat 1) IntKind.u32.bits)) (bitop .and .u32 3988292384 (IntKind.wrap .u32 (0 - bitop .and .u32 x.toNat 1))) = (crcStep x).toNat := by
  have h1 : min (Int.toNat 1) IntKind.u32.bits = 1 := by decide
  have h2 : (1 : Int) = ((1 : BitVec 32).toNat : Int) := by decide
  have h3 : (3988292384 : Int) = ((3988292384 : BitVec 32).toNat : Int) := by decide
  rw [h1, shr_nat, h2, and_u32, neg_u32, h3, and_u32, ← BitVec.toNat_ushiftRight, xor_u32]
  rfl

def crcSum (l : List UInt8) : BitVec 32 := crcMore 0 l

/-- The document's sum. -/
def refBit (l : List UInt8) (i : Nat) : BitVec 64 := if i < 8 * l.length then BitVec.ofNat 64 ((l.getD (i / 8) 0).toNat >>> (i % 8)) &&& 1 else 0

def refTurn (l : List UInt8) (i : Nat) : BitVec 64 := if i < 32 then refBit l i ^^^ 1 else refBit l i

def refStep (l : List UInt8) (r : BitVec 64) (i : Nat) : BitVec 64 :=
  let s := (r <<< 1) ||| refTurn l i
  if s >>> 32 = 1 then s ^^^ 4374732215#64 else s

def refRest (l : List UInt8) : Nat → BitVec 64
  | 0 => 0
  | n + 1 => refStep l (refRest l n) n

def refOut (r : BitVec 64) : Nat → BitVec 32
  | 0 => 0
  | n + 1 => (refOut r n <<< 1) ||| ((r >>> n).setWidth 32 &&& 1)

def refSum (l : List UInt8) : BitVec 32 := refOut (refRest l (8 * l.length + 32)) 32 ^^^ 0xffffffff

theorem lay_u64 (r t : BitVec 64) : bitop .or .u64 (IntKind.wrap .u64 ((r.toNat : Int) * 2 ^ min (Int.toNat 1) IntKind.u64.bits)) t.toNat = ((r <<< 1) ||| t).toNat := by
  have e : IntKind.wrap .u64 ((r.toNat : Int) * 2 ^ min (Int.toNat 1) IntKind.u64.bits) = ((r <<< 1).toNat : Int) := by
    have h1 : min (Int.toNat 1) IntKind.u64.bits = 1 := by decide
    rw [h1, wrap_u64, BitVec.toNat_shiftLeft, Nat.shiftLeft_eq]
    omega
  rw [e, or_u64]

theorem top_u64 (x : BitVec 64) : ((x.toNat : Int).fdiv (2 ^ min (Int.toNat 32) IntKind.u64.bits) = 1) ↔ x >>> 32 = 1 := by
  have h1 : min (Int.toNat 32) IntKind.u64.bits = 32 := by decide
  rw [h1, shr_nat]
  constructor
  · intro h
    apply BitVec.eq_of_toNat_eq
    rw [BitVec.toNat_ushiftRight]
    have : ((1 : BitVec 64).toNat) = 1 := by decide
    omega
  · intro h
    have := congrArg BitVec.toNat h
    rw [BitVec.toNat_ushiftRight] at this
    have h2 : ((1 : BitVec 64).toNat) = 1 := by decide
    omega

theorem step_yes {l : List UInt8} {i : Nat} (h : (((refRest l i <<< 1) ||| refTurn l i).toNat : Int).fdiv (2 ^ min (Int.toNat 32) IntKind.u64.bits) = 1) :
    bitop .xor .u64 ((refRest l i <<< 1) ||| refTurn l i).toNat 4374732215 = (refRest l (i + 1)).toNat := by
  have h3 : (4374732215 : Int) = ((4374732215 : BitVec 64).toNat : Int) := by decide
  rw [h3, xor_u64]
  simp only [refRest, refStep]
  rw [if_pos ((top_u64 _).1 h)]
  rfl

theorem step_no {l : List UInt8} {i : Nat} (h : ¬ (((refRest l i <<< 1) ||| refTurn l i).toNat : Int).fdiv (2 ^ min (Int.toNat 32) IntKind.u64.bits) = 1) :
    (((refRest l i <<< 1) ||| refTurn l i).toNat : Int) = (refRest l (i + 1)).toNat := by
  simp only [refRest, refStep]
  rw [if_neg fun hh => h ((top_u64 _).2 hh)]

theorem one_u64 : (1 : Int) = ((1 : BitVec 64).toNat : Int) := by decide

theorem tdiv_nat (i k : Nat) : (i : Int).tdiv k = ((i / k : Nat) : Int) := by simp [Int.tdiv]

theorem tmod_nat (i k : Nat) : (i : Int).tmod k = ((i % k : Nat) : Int) := by simp [Int.tmod]

end Go.Bv
