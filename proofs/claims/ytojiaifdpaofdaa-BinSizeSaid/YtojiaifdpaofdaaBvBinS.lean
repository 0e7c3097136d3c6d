/- Part of the lift: an abstract walk of the program's code, proved sound, and what it shows of this program. -/
import Derived.Test.YtojiaifdpaofdaaBvTy
namespace Go.Bv
open Go

-- numbers as bytes, seven bits each
def numBytes (n : Nat) : List UInt8 := if n < 128 then [UInt8.ofNat n] else UInt8.ofNat (n % 128 + 128) :: numBytes (n / 128)
termination_by n
decreasing_by omega

theorem numBytes_lt {n : Nat} (h : n < 128) : numBytes n = [UInt8.ofNat n] := by rw [numBytes, if_pos h]
theorem numBytes_ge {n : Nat} (h : ¬ n < 128) : numBytes n = UInt8.ofNat (n % 128 + 128) :: numBytes (n / 128) := by rw [numBytes, if_neg h]
theorem numBytes_len : ∀ (k n : Nat), n < 128 ^ (k + 1) → (numBytes n).length ≤ k + 1
  | 0, n, h => by rw [numBytes_lt (by simpa using h)]; simp
  | k + 1, n, h => by
    by_cases hn : n < 128
    · rw [numBytes_lt hn]; simp
    · rw [numBytes_ge hn]
      have := numBytes_len k (n / 128) (by rw [Nat.pow_succ] at h; omega)
      simp only [List.length_cons]; omega
theorem numBytes_len8 {n : Nat} (h : n ≤ 72057594037927935) : (numBytes n).length ≤ 8 := numBytes_len 7 n (by omega)

theorem or128 (x : Nat) (h : x < 256) : x ||| 128 = x % 128 + 128 := by
  have : ∀ y : Fin 256, y.val ||| 128 = y.val % 128 + 128 := by decide +kernel
  exact this ⟨x, h⟩
theorem byte_or (k : Nat) : bitop .or .u8 (IntKind.wrap .u8 (k : Int)) 128 = ((UInt8.ofNat (k % 128 + 128)).toNat : Int) := by
  rw [wrap_u8]
  show IntKind.wrap .u8 ((BitVec.ofInt 8 ((k : Int) % 256) ||| BitVec.ofInt 8 128).toNat : Int) = _
  have e : BitVec.ofInt 8 ((k : Int) % 256) = BitVec.ofNat 8 (k % 256) := by
    apply BitVec.eq_of_toNat_eq
    simp only [BitVec.toNat_ofInt, BitVec.toNat_ofNat]
    omega
  have e2 : BitVec.ofInt 8 128 = BitVec.ofNat 8 128 := rfl
  rw [e, e2, wrap_u8, BitVec.toNat_or, BitVec.toNat_ofNat, BitVec.toNat_ofNat, UInt8.toNat_ofNat']
  rw [show 128 % 2 ^ 8 = 128 from rfl, Nat.mod_mod, or128 (k % 256) (by omega)]
  omega
theorem shr7 (k : Nat) : ((k : Int).fdiv (2 ^ min (Int.toNat 7) IntKind.i64.bits)) = ((k / 128 : Nat) : Int) := by
  have h : min (Int.toNat 7) IntKind.i64.bits = 7 := by decide
  rw [h, shr_nat, Nat.shiftRight_eq_div_pow]
theorem wrap_byte (k : Nat) : IntKind.wrap .u8 (k : Int) = ((UInt8.ofNat k).toNat : Int) := by
  rw [wrap_u8, UInt8.toNat_ofNat']; omega


/-- What is read of a number: it and what stands behind it, or an error. -/
def rdNum : Nat → Nat → List UInt8 → Except Nat (Nat × List UInt8)
  | _, _, [] => .error 3
  | i, n, x :: r =>
    if (128 ≤ x.toNat ∧ i = 7) ∨ (x.toNat = 0 ∧ 0 < i) then .error 2
    else if x.toNat < 128 then .ok (n + x.toNat % 128 * 128 ^ i, r)
    else rdNum (i + 1) (n + x.toNat % 128 * 128 ^ i) r
def numRes : Except Nat (Nat × List UInt8) → AV
  | .ok (n, r) => .tup [i64 n, bytes r, i64 0]
  | .error e => .tup [i64 0, bytes [], i64 e]

theorem or_i64 (a b : Nat) (ha : a < 2 ^ 63) (hb : b < 2 ^ 63) : bitop .or .i64 (a : Int) (b : Int) = ((a ||| b : Nat) : Int) := by
  show IntKind.wrap .i64 ((BitVec.ofInt 64 (a : Int) ||| BitVec.ofInt 64 (b : Int)).toNat : Int) = _
  have e : ∀ x : Nat, x < 2 ^ 63 → (BitVec.ofInt 64 (x : Int)).toNat = x := fun x hx => by
    simp only [BitVec.toNat_ofInt]; omega
  rw [BitVec.toNat_or, e a ha, e b hb]
  have := Nat.or_lt_two_pow ha hb
  exact wrap_i64 _ (by omega) (by omega)
theorem and127 (x : UInt8) : bitop .and .u8 (x.toNat : Int) 127 = ((x.toNat % 128 : Nat) : Int) := by
  show IntKind.wrap .u8 ((BitVec.ofInt 8 (x.toNat : Int) &&& BitVec.ofInt 8 127).toNat : Int) = _
  have e : BitVec.ofInt 8 (x.toNat : Int) = x.toBitVec := by apply BitVec.eq_of_toNat_eq; simp
  rw [e, BitVec.toNat_and, wrap_u8]
  have h1 : (BitVec.ofInt 8 127).toNat = 2 ^ 7 - 1 := rfl
  have h2 : x.toBitVec.toNat = x.toNat := rfl
  rw [h1, h2, Nat.and_two_pow_sub_one_eq_mod]
  omega
theorem or_add {n i x : Nat} (hn : n < 128 ^ i) : n ||| (x * 128 ^ i) = n + x * 128 ^ i := by
  have e : (128 : Nat) ^ i = 2 ^ (7 * i) := by rw [Nat.pow_mul]
  rw [e] at hn ⊢
  have := Nat.two_pow_add_eq_or_of_lt hn x
  rw [Nat.mul_comm x, Nat.add_comm n, this, Nat.or_comm]
theorem shl7 (x i : Nat) (hx : x < 128) (hi : i ≤ 7) : IntKind.wrap .i64 ((x : Int) * 2 ^ min (Int.toNat ((7 * i : Nat) : Int)) IntKind.i64.bits) = ((x * 128 ^ i : Nat) : Int) := by
  have h : min (Int.toNat ((7 * i : Nat) : Int)) IntKind.i64.bits = 7 * i := by
    show min (7 * i) 64 = 7 * i
    omega
  have e : (128 : Nat) ^ i = 2 ^ (7 * i) := by rw [Nat.pow_mul]
  have hle : (2 : Nat) ^ (7 * i) ≤ 2 ^ 49 := Nat.pow_le_pow_right (by decide) (by omega)
  rw [h, e]
  have : ((x : Int) * 2 ^ (7 * i)) = ((x * 2 ^ (7 * i) : Nat) : Int) := by push_cast; rfl
  rw [this]
  have hb : x * 2 ^ (7 * i) < 128 * 2 ^ 49 := Nat.lt_of_lt_of_le (Nat.mul_lt_mul_of_pos_right hx (Nat.pow_pos (by decide))) (Nat.mul_le_mul_left _ hle)
  exact wrap_i64 _ (by omega) (by omega)

theorem rdNum_err : ∀ {i n : Nat} {l : List UInt8} (e : Nat), rdNum i n l = .error e → e = 2 ∨ e = 3
  | _, _, [], e, h => by simp [rdNum] at h; exact .inr h.symm
  | i, n, x :: r, e, h => by
    rw [rdNum] at h
    split at h
    · simp at h; exact .inl h.symm
    · split at h
      · simp at h
      · exact rdNum_err e h
theorem rdNum_len : ∀ {i n : Nat} {l : List UInt8} (m : Nat) (r : List UInt8), rdNum i n l = .ok (m, r) → r.length < l.length
  | _, _, [], m, r, h => by simp [rdNum] at h
  | i, n, x :: q, m, r, h => by
    rw [rdNum] at h
    split at h
    · simp at h
    · split at h
      · simp only [Except.ok.injEq, Prod.mk.injEq] at h
        rw [← h.2]; simp
      · have := rdNum_len m r h
        simp only [List.length_cons]; omega

/-- What is read of a text: it and what stands behind it, or an error. -/
def rdText (l : List UInt8) : Except Nat (List UInt8 × List UInt8) :=
  match rdNum 0 0 l with
  | .error e => .error e
  | .ok (n, r) => if 65536 < n then .error 4 else if r.length < n then .error 3 else .ok (r.take n, r.drop n)
def textRes : Except Nat (List UInt8 × List UInt8) → AV
  | .ok (s, r) => .tup [.str s, bytes r, i64 0]
  | .error e => .tup [.str [], bytes [], i64 e]
theorem byteOf_u8 (x : UInt8) : byteOf (u8 x) = x := by
  show UInt8.ofNat (Int.toNat (x.toNat : Int)) = x
  simp
theorem bytes_byteOf {l : List UInt8} : (l.map u8).map byteOf = l := by
  rw [List.map_map]
  exact (List.map_congr_left fun x _ => byteOf_u8 x).trans (List.map_id _)
theorem bytes_isByte {l : List UInt8} : ∀ a ∈ l.map u8, isByte a := fun a ha => by
  obtain ⟨x, _, rfl⟩ := List.mem_map.1 ha
  exact ⟨_, rfl⟩

theorem numBytes_300 : numBytes 300 = [172, 2] := by
  rw [numBytes_ge (by decide), numBytes_lt (by decide)]; rfl

theorem numBytes_mono : ∀ (m n : Nat), n ≤ m → (numBytes n).length ≤ (numBytes m).length := by
  intro m
  induction m using Nat.strongRecOn with
  | _ m ih =>
    intro n h
    by_cases hm : m < 128
    · rw [numBytes_lt hm, numBytes_lt (by omega)]; simp
    · by_cases hn : n < 128
      · rw [numBytes_lt hn, numBytes_ge hm]; simp
      · rw [numBytes_ge hn, numBytes_ge hm]
        have := ih (m / 128) (by omega) (n / 128) (by omega)
        simpa using this
def moreBytes (k : Nat) : Nat := if 0 < k then (numBytes k).length else 0
theorem numBytes_size (n : Nat) : (numBytes n).length = 1 + moreBytes (n / 128) := by
  unfold moreBytes
  by_cases h : n < 128
  · rw [numBytes_lt h, if_neg (by omega)]; simp
  · rw [numBytes_ge h, if_pos (by omega)]; simp; omega
theorem tdiv128 (k : Nat) (hk : k < 2 ^ 63) : ((k / 128 : Nat) : Int) = IntKind.wrap .i64 ((k : Int).tdiv 128) := by
  have e : (k : Int).tdiv 128 = ((k / 128 : Nat) : Int) := by
    have : (k : Int).tdiv ((128 : Nat) : Int) = ((k / 128 : Nat) : Int) := by simp [Int.tdiv]
    exact this
  rw [e, wrap_i64 _ (by omega) (by omega)]

end Go.Bv
