/- Part of the lift: an abstract walk of the program's code, proved sound, and what it shows of this program. -/
import Derived.Test.YtkehoabgejdpgaaBvNorm
namespace Go.Bv
open Go

-- numbers as bytes, seven bits each
def numBytes (n : Nat) : List UInt8 := if n < 128 then [UInt8.ofNat n] else UInt8.ofNat (n % 128 + 128) :: numBytes (n / 128)
termination_by n
decreasing_by omega

theorem numBytes_lt {n : Nat} (h : n < 128) : numBytes n = [UInt8.ofNat n] := by rw [numBytes, if_pos h]
theorem numBytes_ge {n : Nat} (h : ¬ n < 128) : numBytes n = UInt8.ofNat (n % 128 + 128) :: numBytes (n / 128) := by rw [numBytes, if_neg h]
theorem numBytes_len : ∀ (k n : Nat), n < 128 ^ (k + 1) → (numBytes n).length ≤ k + 1
  | 0, n, h => by rw [numBytes_lt (by simpa using h)]; simp
  | k + 1, n, h => by
    by_cases hn : n < 128
    · rw [numBytes_lt hn]; simp
    · rw [numBytes_ge hn]
      have := numBytes_len k (n / 128) (by rw [Nat.pow_succ] at h; omega)
      simp only [List.length_cons]; omega
theorem numBytes_len8 {n : Nat} (h : n ≤ 72057594037927935) : (numBytes n).length ≤ 8 := numBytes_len 7 n (by omega)

theorem or128 (x : Nat) (h : x < 256) : x ||| 128 = x % 128 + 128 := by
  have : ∀ y : Fin 256, y.val ||| 128 = y.val % 128 + 128 := by decide +kernel
  exact this ⟨x, h⟩
theorem byte_or (k : Nat) : bitop .or .u8 (IntKind.wrap .u8 (k : Int)) 128 = ((UInt8.ofNat (k % 128 + 128)).toNat : Int) := by
  rw [wrap_u8]
  show IntKind.wrap .u8 ((BitVec.ofInt 8 ((k : Int) % 256) ||| BitVec.ofInt 8 128).toNat : Int) = _
  have e : BitVec.ofInt 8 ((k : Int) % 256) = BitVec.ofNat 8 (k % 256) := by
    apply BitVec.eq_of_toNat_eq
    simp only [BitVec.toNat_ofInt, BitVec.toNat_ofNat]
    omega
  have e2 : BitVec.ofInt 8 128 = BitVec.ofNat 8 128 := rfl
  rw [e, e2, wrap_u8, BitVec.toNat_or, BitVec.toNat_ofNat, BitVec.toNat_ofNat, UInt8.toNat_ofNat']
  rw [show 128 % 2 ^ 8 = 128 from rfl, Nat.mod_mod, or128 (k % 256) (by omega)]
  omega
theorem shr7 (k : Nat) : ((k : Int).fdiv (2 ^ min (Int.toNat 7) IntKind.i64.bits)) = ((k / 128 : Nat) : Int) := by
  have h : min (Int.toNat 7) IntKind.i64.bits = 7 := by decide
  rw [h, shr_nat, Nat.shiftRight_eq_div_pow]
theorem wrap_byte (k : Nat) : IntKind.wrap .u8 (k : Int) = ((UInt8.ofNat k).toNat : Int) := by
  rw [wrap_u8, UInt8.toNat_ofNat']; omega


/-- What is read of a number: it and what stands behind it, or an error. -/
def rdNum : Nat → Nat → List UInt8 → Except Nat (Nat × List UInt8)
  | _, _, [] => .error 3
  | i, n, x :: r =>
    if (128 ≤ x.toNat ∧ i = 7) ∨ (x.toNat = 0 ∧ 0 < i) then .error 2
    else if x.toNat < 128 then .ok (n + x.toNat % 128 * 128 ^ i, r)
    else rdNum (i + 1) (n + x.toNat % 128 * 128 ^ i) r
def numRes : Except Nat (Nat × List UInt8) → AV
  | .ok (n, r) => .tup [i64 n, bytes r, i64 0]
  | .error e => .tup [i64 0, bytes [], i64 e]

theorem or_i64 (a b : Nat) (ha : a < 2 ^ 63) (hb : b < 2 ^ 63) : bitop .or .i64 (a : Int) (b : Int) = ((a ||| b : Nat) : Int) := by
  show IntKind.wrap .i64 ((BitVec.ofInt 64 (a : Int) ||| BitVec.ofInt 64 (b : Int)).toNat : Int) = _
  have e : ∀ x : Nat, x < 2 ^ 63 → (BitVec.ofInt 64 (x : Int)).toNat = x := fun x hx => by
    simp only [BitVec.toNat_ofInt]; omega
  rw [BitVec.toNat_or, e a ha, e b hb]
  have := Nat.or_lt_two_pow ha hb
  exact wrap_i64 _ (by omega) (by omega)
theorem and127 (x : UInt8) : bitop .and .u8 (x.toNat : Int) 127 = ((x.toNat % 128 : Nat) : Int) := by
  show IntKind.wrap .u8 ((BitVec.ofInt 8 (x.toNat : Int) &&& BitVec.ofInt 8 127).toNat : Int) = _
  have e : BitVec.ofInt 8 (x.toNat : Int) = x.toBitVec := by apply BitVec.eq_of_toNat_eq; simp
  rw [e, BitVec.toNat_and, wrap_u8]
  have h1 : (BitVec.ofInt 8 127).toNat = 2 ^ 7 - 1 := rfl
  have h2 : x.toBitVec.toNat = x.toNat := rfl
  rw [h1, h2, Nat.and_two_pow_sub_one_eq_mod]
  omega
theorem or_add {n i x : Nat} (hn : n < 128 ^ i) : n ||| (x * 128 ^ i) = n + x * 128 ^ i := by
  have e : (128 : Nat) ^ i = 2 ^ (7 * i) := by rw [Nat.pow_mul]
  rw [e] at hn ⊢
  have := Nat.two_pow_add_eq_or_of_lt hn x
  rw [Nat.mul_comm x, Nat.add_comm n, this, Nat.or_comm]
theorem shl7 (x i : Nat) (hx : x < 128) (hi : i ≤ 7) : IntKind.wrap .i64 ((x : Int) * 2 ^ min (Int.toNat ((7 * i : Nat) : Int)) IntKind.i64.bits) = ((x * 128 ^ i : Nat) : Int) := by
  have h : min (Int.toNat ((7 * i : Nat) : Int)) IntKind.i64.bits = 7 * i := by
    show min (7 * i) 64 = 7 * i
    omega
  have e : (128 : Nat) ^ i = 2 ^ (7 * i) := by rw [Nat.pow_mul]
  have hle : (2 : Nat) ^ (7 * i) ≤ 2 ^ 49 := Nat.pow_le_pow_right (by decide) (by omega)
  rw [h, e]
  have : ((x : Int) * 2 ^ (7 * i)) = ((x * 2 ^ (7 * i) : Nat) : Int) := by push_cast; rfl
  rw [this]
  have hb : x * 2 ^ (7 * i) < 128 * 2 ^ 49 := Nat.lt_of_lt_of_le (Nat.mul_lt_mul_of_pos_right hx (Nat.pow_pos (by decide))) (Nat.mul_le_mul_left _ hle)
  exact wrap_i64 _ (by omega) (by omega)

theorem rdNum_err : ∀ {i n : Nat} {l : List UInt8} (e : Nat), rdNum i n l = .error e → e = 2 ∨ e = 3
  | _, _, [], e, h => by simp [rdNum] at h; exact .inr h.symm
  | i, n, x :: r, e, h => by
    rw [rdNum] at h
    split at h
    · simp at h; exact .inl h.symm
    · split at h
      · simp at h
      · exact rdNum_err e h
theorem rdNum_len : ∀ {i n : Nat} {l : List UInt8} (m : Nat) (r : List UInt8), rdNum i n l = .ok (m, r) → r.length < l.length
  | _, _, [], m, r, h => by simp [rdNum] at h
  | i, n, x :: q, m, r, h => by
    rw [rdNum] at h
    split at h
    · simp at h
    · split at h
      · simp only [Except.ok.injEq, Prod.mk.injEq] at h
        rw [← h.2]; simp
      · have := rdNum_len m r h
        simp only [List.length_cons]; omega

/-- What is read of a text: it and what stands behind it, or an error. -/
def rdText (l : List UInt8) : Except Nat (List UInt8 × List UInt8) :=
  match rdNum 0 0 l with
  | .error e => .error e
  | .ok (n, r) => if 65536 < n then .error 4 else if r.length < n then .error 3 else .ok (r.take n, r.drop n)
def textRes : Except Nat (List UInt8 × List UInt8) → AV
  | .ok (s, r) => .tup [.str s, bytes r, i64 0]
  | .error e => .tup [.str [], bytes [], i64 e]
theorem byteOf_u8 (x : UInt8) : byteOf (u8 x) = x := by
  show UInt8.ofNat (Int.toNat (x.toNat : Int)) = x
  simp
theorem bytes_byteOf {l : List UInt8} : (l.map u8).map byteOf = l := by
  rw [List.map_map]
  exact (List.map_congr_left fun x _ => byteOf_u8 x).trans (List.map_id _)
theorem bytes_isByte {l : List UInt8} : ∀ a ∈ l.map u8, isByte a := fun a ha => by
  obtain ⟨x, _, rfl⟩ := List.mem_map.1 ha
  exact ⟨_, rfl⟩

theorem numBytes_300 : numBytes 300 = [172, 2] := by
  rw [numBytes_ge (by decide), numBytes_lt (by decide)]; rfl

theorem numBytes_mono : ∀ (m n : Nat), n ≤ m → (numBytes n).length ≤ (numBytes m).length := by
  intro m
  induction m using Nat.strongRecOn with
  | _ m ih =>
    intro n h
    by_cases hm : m < 128
    · rw [numBytes_lt hm, numBytes_lt (by omega)]; simp
    · by_cases hn : n < 128
      · rw [numBytes_lt hn, numBytes_ge hm]; simp
      · rw [numBytes_ge hn, numBytes_ge hm]
        have := ih (m / 128) (by omega) (n / 128) (by omega)
        simpa using this
def moreBytes (k : Nat) : Nat := if 0 < k then (numBytes k).length else 0
theorem numBytes_size (n : Nat) : (numBytes n).length = 1 + moreBytes (n / 128) := by
  unfold moreBytes
  by_cases h : n < 128
  · rw [numBytes_lt h, if_neg (by omega)]; simp
  · rw [numBytes_ge h, if_pos (by omega)]; simp; omega
theorem tdiv128 (k : Nat) (hk : k < 2 ^ 63) : ((k / 128 : Nat) : Int) = IntKind.wrap .i64 ((k : Int).tdiv 128) := by
  have e : (k : Int).tdiv 128 = ((k / 128 : Nat) : Int) := by
    have : (k : Int).tdiv ((128 : Nat) : Int) = ((k / 128 : Nat) : Int) := by simp [Int.tdiv]
    exact this
  rw [e, wrap_i64 _ (by omega) (by omega)]

-- whole numbers as eight bytes
def intByte (v i : Nat) : UInt8 := UInt8.ofNat (v / 256 ^ i)
def intBytes (v k : Nat) : List UInt8 := (List.range k).map (intByte v)
theorem intBytes_succ (v k : Nat) : intBytes v (k + 1) = intBytes v k ++ [intByte v k] := by simp [intBytes, List.range_succ]
theorem intBytes_len (v k : Nat) : (intBytes v k).length = k := by simp [intBytes]
def u64of (n : Int) : Nat := (n % 18446744073709551616).toNat
theorem u64of_eq (n : Int) : IntKind.wrap .u64 n = (u64of n : Int) := by
  rw [wrap_u64]; unfold u64of; omega
theorem u64of_lt (n : Int) : u64of n < 2 ^ 64 := by unfold u64of; omega
theorem shr8 (v i : Nat) (hi : i < 8) : IntKind.wrap .u8 ((v : Int).fdiv (2 ^ min (Int.toNat ((8 * i : Nat) : Int)) IntKind.u64.bits)) = ((intByte v i).toNat : Int) := by
  have h : min (Int.toNat ((8 * i : Nat) : Int)) IntKind.u64.bits = 8 * i := by
    show min (8 * i) 64 = 8 * i
    omega
  have e : (256 : Nat) ^ i = 2 ^ (8 * i) := by rw [Nat.pow_mul]
  rw [h, shr_nat, Nat.shiftRight_eq_div_pow, ← e, wrap_byte]; rfl

theorem tmod128 (k : Nat) : (k : Int).tmod 128 = ((k % 128 : Nat) : Int) := by
  have : (k : Int).tmod ((128 : Nat) : Int) = ((k % 128 : Nat) : Int) := by simp [Int.tmod]
  exact this

theorem or_u64n (a b : Nat) (ha : a < 2 ^ 64) (hb : b < 2 ^ 64) : bitop .or .u64 (a : Int) (b : Int) = ((a ||| b : Nat) : Int) := by
  show IntKind.wrap .u64 ((BitVec.ofInt 64 (a : Int) ||| BitVec.ofInt 64 (b : Int)).toNat : Int) = _
  have e : ∀ x : Nat, x < 2 ^ 64 → (BitVec.ofInt 64 (x : Int)).toNat = x := fun x hx => by
    simp only [BitVec.toNat_ofInt]; omega
  rw [BitVec.toNat_or, e a ha, e b hb, wrap_u64]
  have := Nat.or_lt_two_pow ha hb
  omega
theorem or_add8 {n i x : Nat} (hn : n < 256 ^ i) : n ||| (x * 256 ^ i) = n + x * 256 ^ i := by
  have e : (256 : Nat) ^ i = 2 ^ (8 * i) := by rw [Nat.pow_mul]
  rw [e] at hn ⊢
  have := Nat.two_pow_add_eq_or_of_lt hn x
  rw [Nat.mul_comm x, Nat.add_comm n, this, Nat.or_comm]
/-- What eight bytes say. -/
def rdInt (l : List UInt8) : Nat → Nat
  | 0 => 0
  | k + 1 => rdInt l k + (l.getD k 0).toNat * 256 ^ k
theorem rdInt_lt (l : List UInt8) : ∀ k, rdInt l k < 256 ^ k
  | 0 => by show 0 < 1; decide
  | k + 1 => by
    have := rdInt_lt l k
    have h := (l.getD k 0).toNat_lt
    have h2 : (l.getD k 0).toNat * 256 ^ k ≤ 255 * 256 ^ k := Nat.mul_le_mul_right _ (by omega)
    rw [rdInt, Nat.pow_succ]; omega
theorem shl8 (x i : Nat) (hx : x < 256) (hi : i < 8) : IntKind.wrap .u64 ((x : Int) * 2 ^ min (Int.toNat ((8 * i : Nat) : Int)) IntKind.u64.bits) = ((x * 256 ^ i : Nat) : Int) := by
  have h : min (Int.toNat ((8 * i : Nat) : Int)) IntKind.u64.bits = 8 * i := by
    show min (8 * i) 64 = 8 * i
    omega
  have e : (256 : Nat) ^ i = 2 ^ (8 * i) := by rw [Nat.pow_mul]
  have hle : (2 : Nat) ^ (8 * i) ≤ 2 ^ 56 := Nat.pow_le_pow_right (by decide) (by omega)
  rw [h, e]
  have : ((x : Int) * 2 ^ (8 * i)) = ((x * 2 ^ (8 * i) : Nat) : Int) := by push_cast; rfl
  rw [this, wrap_u64]
  have hb : x * 2 ^ (8 * i) < 256 * 2 ^ 56 := Nat.lt_of_lt_of_le (Nat.mul_lt_mul_of_pos_right hx (Nat.pow_pos (by decide))) (Nat.mul_le_mul_left _ hle)
  omega
theorem rdInt_intBytes (v : Nat) (r : List UInt8) : ∀ k, k ≤ 8 → rdInt (intBytes v 8 ++ r) k = v % 256 ^ k
  | 0, _ => by simp [rdInt, Nat.mod_one]
  | k + 1, hk => by
    rw [rdInt, rdInt_intBytes v r k (by omega), List.getD_eq_getElem?_getD, List.getElem?_append_left (by rw [intBytes_len]; omega)]
    have : (intBytes v 8)[k]? = some (intByte v k) := by
      rw [List.getElem?_eq_getElem (by rw [intBytes_len]; omega)]
      simp [intBytes]
    rw [this, Option.getD_some]
    unfold intByte
    rw [UInt8.toNat_ofNat']
    have h := Nat.mod_mul (a := 256 ^ k) (b := 256) (x := v)
    rw [show (256 : Nat) ^ (k + 1) = 256 ^ k * 256 from Nat.pow_succ .., h, Nat.mul_comm (256 ^ k)]
def intOf (l : List UInt8) : Int := IntKind.wrap .i64 (rdInt l 8 : Int)
theorem intOf_intBytes (m : Int) (h1 : -9223372036854775808 ≤ m) (h2 : m < 9223372036854775808) (r : List UInt8) : intOf (intBytes (u64of m) 8 ++ r) = m := by
  unfold intOf
  rw [rdInt_intBytes _ _ 8 (Nat.le_refl _), Nat.mod_eq_of_lt (by have := u64of_lt m; omega)]
  unfold u64of
  have e : ∀ n : Int, IntKind.wrap .i64 n = if n % 18446744073709551616 ≥ 9223372036854775808 then n % 18446744073709551616 - 18446744073709551616 else n % 18446744073709551616 := fun n => by
    simp [IntKind.wrap, IntKind.bits, IntKind.signed]
  rw [e]
  split <;> omega

theorem ofNat_toNat' {x : UInt8} {k : Nat} (h : k = x.toNat) : UInt8.ofNat k = x := by subst h; simp

/-- What is read stood there in its one form. -/
theorem rdNum_ok : ∀ (l : List UInt8) (i n m : Nat) (r : List UInt8), i ≤ 7 → n < 128 ^ i → rdNum i n l = .ok (m, r) → m < 128 ^ 8 ∧ ∃ q, m = n + q * 128 ^ i ∧ l = numBytes q ++ r ∧ (0 < i → 0 < q)
  | [], _, _, _, _, _, _, h => by simp [rdNum] at h
  | x :: l, i, n, m, r, hi, hn, h => by
    rw [rdNum] at h
    have hx := x.toNat_lt
    split at h
    · simp at h
    · rename_i hbad
      split at h
      · rename_i hlt
        simp only [Except.ok.injEq, Prod.mk.injEq] at h
        obtain ⟨rfl, rfl⟩ := h
        rw [Nat.mod_eq_of_lt hlt]
        refine ⟨?_, x.toNat, rfl, ?_, by omega⟩
        · have h1 : x.toNat * 128 ^ i ≤ 127 * 128 ^ i := Nat.mul_le_mul_right _ (by omega)
          have h2 : (128 : Nat) ^ i ≤ 128 ^ 7 := Nat.pow_le_pow_right (by decide) hi
          omega
        · rw [numBytes_lt hlt, ofNat_toNat' rfl]; rfl
      · rename_i hge
        have hn' : n + x.toNat % 128 * 128 ^ i < 128 ^ (i + 1) := by
          have h1 : x.toNat % 128 * 128 ^ i ≤ 127 * 128 ^ i := Nat.mul_le_mul_right _ (by omega)
          rw [Nat.pow_succ]; omega
        obtain ⟨h1, q, h2, h3, h4⟩ := rdNum_ok l (i + 1) _ m r (by omega) hn' h
        have hq := h4 (by omega)
        refine ⟨h1, x.toNat % 128 + 128 * q, ?_, ?_, by omega⟩
        · rw [h2, Nat.pow_succ, Nat.add_mul, Nat.add_assoc]
          congr 2
          rw [Nat.mul_comm (128 ^ i) 128, ← Nat.mul_assoc, Nat.mul_comm q 128]
        · rw [numBytes_ge (by omega), h3, show (x.toNat % 128 + 128 * q) % 128 = x.toNat % 128 by omega, show (x.toNat % 128 + 128 * q) / 128 = q by omega, ofNat_toNat' (x := x) (by omega)]
          rfl
theorem rdNum_one {l : List UInt8} {m : Nat} {r : List UInt8} (h : rdNum 0 0 l = .ok (m, r)) : m ≤ 72057594037927935 ∧ l = numBytes m ++ r := by
  obtain ⟨h1, q, h2, h3, _⟩ := rdNum_ok l 0 0 m r (by omega) (by decide) h
  have : q = m := by omega
  subst this
  exact ⟨by omega, h3⟩
/-- What was put is read. -/
theorem rdNum_back (r : List UInt8) : ∀ (q i n : Nat), i ≤ 7 → q < 128 ^ (8 - i) → (0 < i → 0 < q) → rdNum i n (numBytes q ++ r) = .ok (n + q * 128 ^ i, r) := by
  intro q
  induction q using Nat.strongRecOn with
  | _ q ih =>
    intro i n hi hq h0
    by_cases h : q < 128
    · rw [numBytes_lt h]
      show rdNum i n (UInt8.ofNat q :: r) = _
      have e : (UInt8.ofNat q).toNat = q := by rw [UInt8.toNat_ofNat']; omega
      rw [rdNum, e, if_neg (by omega), if_pos h, Nat.mod_eq_of_lt h]
    · rw [numBytes_ge h]
      show rdNum i n (UInt8.ofNat (q % 128 + 128) :: (numBytes (q / 128) ++ r)) = _
      have e : (UInt8.ofNat (q % 128 + 128)).toNat = q % 128 + 128 := by rw [UInt8.toNat_ofNat']; omega
      have hi7 : i < 7 := by
        rcases Nat.lt_or_ge i 7 with h' | h'
        · exact h'
        · have : i = 7 := by omega
          subst this
          simp at hq; omega
      rw [rdNum, e, if_neg (by omega), if_neg (by omega), ih (q / 128) (by omega) (i + 1) _ (by omega) ?_ (by omega)]
      · congr 2
        rw [show (q % 128 + 128) % 128 = q % 128 by omega, Nat.pow_succ, Nat.add_assoc]
        congr 1
        rw [Nat.mul_comm (128 ^ i) 128, ← Nat.mul_assoc, ← Nat.add_mul]
        congr 1; omega
      · rw [show 8 - i = (8 - (i + 1)) + 1 by omega, Nat.pow_succ] at hq
        omega
theorem rdNum_put (r : List UInt8) {n : Nat} (h : n ≤ 72057594037927935) : rdNum 0 0 (numBytes n ++ r) = .ok (n, r) := by
  rw [rdNum_back r n 0 0 (by omega) (by omega) (by omega)]; simp
theorem rdText_one {l s r : List UInt8} (h : rdText l = .ok (s, r)) : s.length ≤ 65536 ∧ l = numBytes s.length ++ s ++ r := by
  unfold rdText at h
  split at h
  · simp at h
  · rename_i n q hq
    split at h
    · simp at h
    · split at h
      · simp at h
      · simp only [Except.ok.injEq, Prod.mk.injEq] at h
        obtain ⟨rfl, rfl⟩ := h
        have hl : (q.take n).length = n := by simp; omega
        rw [hl]
        refine ⟨by omega, ?_⟩
        rw [List.append_assoc, List.take_append_drop]
        exact (rdNum_one hq).2
theorem rdText_put (r : List UInt8) {s : List UInt8} (h : s.length ≤ 65536) : rdText (numBytes s.length ++ s ++ r) = .ok (s, r) := by
  unfold rdText
  rw [List.append_assoc, rdNum_put (s ++ r) (by omega)]
  dsimp only
  rw [if_neg (by omega), if_neg (by simp)]
  simp
theorem rdText_err {l : List UInt8} {e : Nat} (h : rdText l = .error e) : e = 2 ∨ e = 3 ∨ e = 4 := by
  unfold rdText at h
  split at h
  · rename_i e' he
    simp at h; subst h
    rcases rdNum_err _ he with h | h <;> omega
  · split at h
    · simp at h; omega
    · split at h
      · simp at h; omega
      · simp at h

end Go.Bv
