/- Part of the lift: an abstract walk of the program's code, proved sound, and what it shows of this program. -/
import Derived.Test.YtegjfgodmenagaaBvCrcS
namespace Go.Bv
open Go

-- the plain law: the two sums are the same
def mulx (r : BitVec 32) : BitVec 32 := (r <<< 1) ^^^ (if r.msb then 0x04c11db7 else 0)
def mulxs : Nat → BitVec 32 → BitVec 32
  | 0, r => r
  | n + 1, r => mulx (mulxs n r)
def bitv (b : Bool) : BitVec 32 := if b then 1 else 0

theorem mulx_xor (a b : BitVec 32) : mulx (a ^^^ b) = mulx a ^^^ mulx b := by
  unfold mulx
  rw [BitVec.msb_xor, BitVec.shiftLeft_xor_distrib]
  have h : ∀ x y p : BitVec 32, x ^^^ y = x ^^^ p ^^^ (y ^^^ p) := fun x y p => by
    rw [show x ^^^ p ^^^ (y ^^^ p) = x ^^^ y ^^^ (p ^^^ p) by ac_rfl, BitVec.xor_self, BitVec.xor_zero]
  cases a.msb <;> cases b.msb
  · simp
  · simp [BitVec.xor_assoc]
  · simp; ac_rfl
  · simpa using h (a <<< 1) (b <<< 1) 0x04c11db7
theorem mulxs_xor (a b : BitVec 32) : ∀ n, mulxs n (a ^^^ b) = mulxs n a ^^^ mulxs n b
  | 0 => rfl
  | n + 1 => by simp only [mulxs]; rw [mulxs_xor a b n, mulx_xor]
theorem mulxs_comm (a : BitVec 32) : ∀ n, mulxs n (mulx a) = mulx (mulxs n a)
  | 0 => rfl
  | n + 1 => by simp only [mulxs]; rw [mulxs_comm a n]
theorem mulxs_bit (b : Bool) : mulxs 32 (bitv b) = mulx (bitv b <<< 31) := by cases b <;> decide

/-- The register, with bits put in below. -/
def aug (f : Nat → Bool) : Nat → BitVec 32
  | 0 => 0
  | n + 1 => mulx (aug f n) ^^^ bitv (f n)
/-- The register, with bits put in above. -/
def dir (f : Nat → Bool) : Nat → BitVec 32
  | 0 => 0xffffffff
  | n + 1 => mulx (dir f n ^^^ (bitv (f n) <<< 31))

theorem dir_eq (f : Nat → Bool) : ∀ n, dir f n = mulxs 32 (aug f n) ^^^ mulxs n 0xffffffff
  | 0 => by
    show (0xffffffff : BitVec 32) = mulxs 32 0 ^^^ 0xffffffff
    decide
  | n + 1 => by
    simp only [dir, aug]
    rw [dir_eq f n, mulx_xor, mulx_xor, mulxs_xor, mulxs_comm, mulxs_bit]
    have : mulxs (n + 1) 0xffffffff = mulx (mulxs n 0xffffffff) := rfl
    rw [this]
    ac_rfl
theorem aug_xor (f g : Nat → Bool) : ∀ n, aug (fun i => f i ^^ g i) n = aug f n ^^^ aug g n
  | 0 => by show (0 : BitVec 32) = 0 ^^^ 0; decide
  | n + 1 => by
    simp only [aug]
    rw [aug_xor f g n, mulx_xor]
    have : bitv (f n ^^ g n) = bitv (f n) ^^^ bitv (g n) := by cases f n <;> cases g n <;> decide
    rw [this]
    ac_rfl
theorem aug_zero (f : Nat → Bool) (n : Nat) : ∀ k, (∀ i, n ≤ i → i < n + k → f i = false) → aug f (n + k) = mulxs k (aug f n)
  | 0, _ => rfl
  | k + 1, h => by
    rw [← Nat.add_assoc]
    simp only [aug, mulxs]
    rw [aug_zero f n k (fun i h1 h2 => h i h1 (by omega)), h (n + k) (by omega) (by omega)]
    simp [bitv]
theorem aug_first : aug (fun i => decide (i < 32)) 32 = 0xffffffff := by decide +kernel

/-- Bits, 32 noughts, the first 32 turned: as the other register says. -/
theorem aug_dir (f : Nat → Bool) (n : Nat) (hf : ∀ i, n ≤ i → f i = false) : aug (fun i => f i ^^ decide (i < 32)) (n + 32) = dir f n := by
  rw [aug_xor, aug_zero f n 32 (fun i h _ => hf i h), Nat.add_comm n 32, aug_zero _ 32 n (fun i h _ => by simp; omega), aug_first, dir_eq]


theorem lay_nat (R : BitVec 32) (c : Bool) : ((R.setWidth 64 <<< 1) ||| (bitv c).setWidth 64) = (BitVec.ofNat 64 (2 * R.toNat + c.toNat)) := by
  have hR := R.isLt
  cases c
  · simp only [bitv, Bool.toNat_false]
    apply BitVec.eq_of_toNat_eq
    simp [Nat.shiftLeft_eq]
    omega
  · simp only [bitv, Bool.toNat_true]
    apply BitVec.eq_of_toNat_eq
    have : (2 * R.toNat) ||| 1 = 2 * R.toNat + 1 := by
      have := Nat.two_pow_add_eq_or_of_lt (b := 1) (i := 1) (by decide) R.toNat
      rw [Nat.pow_one] at this
      exact this.symm
    simp [Nat.shiftLeft_eq]
    rw [Nat.mul_comm R.toNat 2, Nat.mod_eq_of_lt (by omega), this]
    omega
theorem msb_iff (R : BitVec 32) : R.msb = true ↔ 2 ^ 31 ≤ R.toNat := by
  rw [BitVec.msb_eq_decide]; simp

theorem step64 (R : BitVec 32) (c : Bool) : (if ((R.setWidth 64 <<< 1) ||| (bitv c).setWidth 64) >>> 32 = 1 then ((R.setWidth 64 <<< 1) ||| (bitv c).setWidth 64) ^^^ 4374732215#64 else ((R.setWidth 64 <<< 1) ||| (bitv c).setWidth 64)) = (mulx R ^^^ bitv c).setWidth 64 := by
  have hR := R.isLt
  have htop : (((R.setWidth 64 <<< 1) ||| (bitv c).setWidth 64) >>> 32 = 1) ↔ R.msb = true := by
    rw [lay_nat, msb_iff]
    have hc : c.toNat ≤ 1 := by cases c <;> simp
    constructor
    · intro h
      have := congrArg BitVec.toNat h
      simp [Nat.shiftRight_eq_div_pow] at this
      omega
    · intro h
      apply BitVec.eq_of_toNat_eq
      simp [Nat.shiftRight_eq_div_pow]
      omega
  have hor : ((R.setWidth 64 <<< 1) ||| (bitv c).setWidth 64) = (R.setWidth 64 <<< 1) ^^^ (bitv c).setWidth 64 := by
    ext i hi
    cases c
    · simp [bitv]
    · simp [bitv]
      by_cases h0 : i = 0 <;> simp [h0]
  by_cases hm : R.msb = true
  · rw [if_pos (htop.2 hm), hor]
    unfold mulx
    rw [if_pos hm]
    have hp : 4374732215#64 = (0x04c11db7#32).setWidth 64 ^^^ (1#64 <<< 32) := by decide
    have hs : (R.setWidth 64 <<< 1) = (R <<< 1).setWidth 64 ^^^ (1#64 <<< 32) := by
      ext i hi
      have hmb : R.getLsbD 31 = true := by rw [BitVec.msb_eq_getLsbD_last] at hm; exact hm
      simp only [BitVec.getElem_shiftLeft, BitVec.getElem_xor, BitVec.getElem_setWidth, BitVec.getLsbD_shiftLeft]
      by_cases h1 : i = 32
      · subst h1; simp [hmb]
      · by_cases h2 : i < 32
        · simp [h2]
        · have h3 : R.getLsbD (i - 1) = false := BitVec.getLsbD_of_ge _ _ (by omega)
          simp [h2, h3]
          omega
    rw [hs, hp, BitVec.setWidth_xor, BitVec.setWidth_xor]
    have h : ∀ x y z p : BitVec 64, x ^^^ p ^^^ z ^^^ (y ^^^ p) = x ^^^ y ^^^ z := fun x y z p => by
      rw [show x ^^^ p ^^^ z ^^^ (y ^^^ p) = x ^^^ y ^^^ z ^^^ (p ^^^ p) by ac_rfl, BitVec.xor_self, BitVec.xor_zero]
    exact h _ _ _ _
  · rw [if_neg (fun h => hm (htop.1 h)), hor]
    unfold mulx
    rw [if_neg hm]
    have hs : (R.setWidth 64 <<< 1) = (R <<< 1).setWidth 64 := by
      have : ¬ 2 ^ 31 ≤ R.toNat := fun h => hm ((msb_iff R).2 h)
      apply BitVec.eq_of_toNat_eq
      simp [Nat.shiftLeft_eq]
      omega
    have h0 : R <<< 1 ^^^ (0 : BitVec 32) = R <<< 1 := BitVec.xor_zero
    rw [hs, h0, BitVec.setWidth_xor]


def bitOf (l : List UInt8) (i : Nat) : Bool := (l.getD (i / 8) 0).toNat.testBit (i % 8)

theorem refTurn_eq (l : List UInt8) (i : Nat) : refTurn l i = (bitv (bitOf l i ^^ decide (i < 32))).setWidth 64 := by
  have hb : refBit l i = (bitv (bitOf l i)).setWidth 64 := by
    unfold refBit bitOf
    have hand : ∀ x : Nat, x < 2 ^ 64 → BitVec.ofNat 64 x &&& 1 = (bitv (x.testBit 0)).setWidth 64 := by
      intro x hx
      apply BitVec.eq_of_toNat_eq
      rw [BitVec.toNat_and, BitVec.toNat_ofNat, Nat.mod_eq_of_lt hx]
      have h1 : (1 : BitVec 64).toNat = 1 := rfl
      rw [h1, Nat.and_one_is_mod, Nat.testBit_zero]
      rcases Nat.mod_two_eq_zero_or_one x with h | h <;> simp [h, bitv]
    split
    · rw [hand, Nat.testBit_shiftRight, Nat.add_zero]
      rw [Nat.shiftRight_eq_div_pow]
      have := (l.getD (i / 8) 0).toNat_lt
      exact Nat.lt_of_le_of_lt (Nat.div_le_self _ _) (by omega)
    · rename_i h
      have : l.getD (i / 8) 0 = 0 := by rw [List.getD_eq_getElem?_getD, List.getElem?_eq_none (by omega)]; rfl
      rw [this]; simp [bitv]
  unfold refTurn
  rw [hb]
  split
  · rename_i h
    simp only [h, decide_true]
    cases bitOf l i <;> decide
  · rename_i h
    simp only [h, decide_false, Bool.xor_false]

theorem refRest_eq (l : List UInt8) : ∀ k, refRest l k = (aug (fun i => bitOf l i ^^ decide (i < 32)) k).setWidth 64
  | 0 => by show (0 : BitVec 64) = (0 : BitVec 32).setWidth 64; decide
  | k + 1 => by
    simp only [refRest, aug]
    rw [← step64, refRest_eq l k]
    simp only [refStep, refTurn_eq]

theorem refOut_bit (r : BitVec 64) : ∀ (n : Nat), n ≤ 32 → ∀ i, (refOut r n).getLsbD i = (decide (i < n) && r.getLsbD (n - 1 - i))
  | 0, _, i => by simp [refOut]
  | n + 1, hn, i => by
    simp only [refOut]
    rw [BitVec.getLsbD_or, BitVec.getLsbD_shiftLeft, refOut_bit r n (by omega), BitVec.getLsbD_and, BitVec.getLsbD_setWidth, BitVec.getLsbD_ushiftRight]
    have h1 : (1 : BitVec 32).getLsbD i = decide (i = 0) := by simp
    rw [h1]
    rcases Nat.eq_zero_or_pos i with h | h
    · subst h; simp
    · have e : n - 1 - (i - 1) = n - i := by omega
      have e2 : n + 1 - 1 - i = n - i := by omega
      rw [e, e2]
      by_cases h2 : i < n + 1
      · have h3 : i - 1 < n := by omega
        have h4 : i < 32 := by omega
        simp [h2, h3, h4, show ¬ i < 1 by omega, show i ≠ 0 by omega]
      · have h3 : ¬ i - 1 < n := by omega
        simp [h2, h3, show i ≠ 0 by omega]

def rev (r : BitVec 32) : BitVec 32 := refOut (r.setWidth 64) 32
theorem rev_bit (r : BitVec 32) (i : Nat) (h : i < 32) : (rev r).getLsbD i = r.getLsbD (31 - i) := by
  unfold rev
  rw [refOut_bit _ 32 (by omega)]
  simp [h, BitVec.getLsbD_setWidth]
  intro _; omega
theorem rev_xor (a b : BitVec 32) : rev (a ^^^ b) = rev a ^^^ rev b := by
  apply BitVec.eq_of_getLsbD_eq
  intro i h
  rw [BitVec.getLsbD_xor, rev_bit _ _ h, rev_bit _ _ h, rev_bit _ _ h, BitVec.getLsbD_xor]

theorem crcStep_if : ∀ r : BitVec 32, crcStep r = (r >>> 1) ^^^ (if r.getLsbD 0 then 0xedb88320 else 0) := by
  intro r
  unfold crcStep
  congr 1
  have : r &&& 1 = if r.getLsbD 0 then 1 else 0 := by
    apply BitVec.eq_of_toNat_eq
    rw [BitVec.toNat_and]
    have h1 : (1 : BitVec 32).toNat = 1 := rfl
    rw [h1, Nat.and_one_is_mod, BitVec.getLsbD, Nat.testBit_zero]
    rcases Nat.mod_two_eq_zero_or_one r.toNat with h | h <;> simp [h]
  rw [this]
  cases r.getLsbD 0 <;> decide

theorem crcStep_xor (a b : BitVec 32) : crcStep (a ^^^ b) = crcStep a ^^^ crcStep b := by
  have h := crcStep_if
  rw [h, h, h, BitVec.getLsbD_xor, BitVec.ushiftRight_xor_distrib]
  have hc : ∀ x y p : BitVec 32, x ^^^ y = x ^^^ p ^^^ (y ^^^ p) := fun x y p => by
    rw [show x ^^^ p ^^^ (y ^^^ p) = x ^^^ y ^^^ (p ^^^ p) by ac_rfl, BitVec.xor_self, BitVec.xor_zero]
  cases a.getLsbD 0 <;> cases b.getLsbD 0
  · simp
  · simp [BitVec.xor_assoc]
  · simp; ac_rfl
  · simpa using hc (a >>> 1) (b >>> 1) 0xedb88320

theorem rev_mulx (d : BitVec 32) : rev (mulx d) = crcStep (rev d) := by
  have h := crcStep_if
  rw [h]
  unfold mulx
  rw [rev_xor]
  have h0 : (rev d).getLsbD 0 = d.msb := by rw [rev_bit _ _ (by decide), BitVec.msb_eq_getLsbD_last]
  have h1 : rev (d <<< 1) = rev d >>> 1 := by
    apply BitVec.eq_of_getLsbD_eq
    intro i hi
    rw [rev_bit _ _ hi, BitVec.getLsbD_ushiftRight, BitVec.getLsbD_shiftLeft]
    by_cases h : i = 31
    · subst h
      have : (rev d).getLsbD (1 + 31) = false := BitVec.getLsbD_of_ge _ _ (by omega)
      rw [this]; simp
    · rw [rev_bit _ _ (by omega)]
      have e : 31 - i - 1 = 31 - (1 + i) := by omega
      rw [e]
      simp [show ¬ 31 - i < 1 by omega]
      intro _; omega
  rw [h0, h1]
  cases d.msb
  · have : rev 0#32 = 0#32 := by decide
    simp [this]
  · have : rev 79764919#32 = 3988292384#32 := by decide
    simp [this]

/-- Bit by bit. -/
def bitStep (r : BitVec 32) (b : Bool) : BitVec 32 := crcStep (r ^^^ bitv b)
def bitSteps (x : Nat) : Nat → BitVec 32 → BitVec 32
  | 0, r => r
  | n + 1, r => bitSteps (x / 2) n (bitStep r (x.testBit 0))

theorem steps_bits : ∀ (n x : Nat) (r : BitVec 32), x < 2 ^ n → n ≤ 32 → crcSteps n (r ^^^ BitVec.ofNat 32 x) = bitSteps x n r
  | 0, x, r, h, _ => by
    have : x = 0 := by simpa using h
    subst this
    show r ^^^ 0#32 = r
    simp
  | n + 1, x, r, h, hn => by
    simp only [crcSteps, bitSteps]
    rw [← steps_bits n (x / 2) _ (by rw [Nat.pow_succ] at h; omega) (by omega)]
    congr 1
    unfold bitStep
    have hx : x < 2 ^ 32 := Nat.lt_of_lt_of_le h (Nat.pow_le_pow_right (by decide) hn)
    have e : BitVec.ofNat 32 x = bitv (x.testBit 0) ^^^ BitVec.ofNat 32 (2 * (x / 2)) := by
      rw [Nat.testBit_zero]
      have hm := Nat.div_add_mod x 2
      rcases Nat.mod_two_eq_zero_or_one x with h | h
      · rw [h] at hm ⊢
        rw [show 2 * (x / 2) = x by omega]
        simp [bitv]
      · rw [h] at hm ⊢
        simp only [bitv, decide_true, if_true]
        apply BitVec.eq_of_toNat_eq
        rw [BitVec.toNat_xor, BitVec.toNat_ofNat, BitVec.toNat_ofNat, Nat.mod_eq_of_lt hx, Nat.mod_eq_of_lt (by omega)]
        have h1 : (1 : BitVec 32).toNat = 1 := rfl
        rw [h1]
        apply Nat.eq_of_testBit_eq
        intro i
        rw [Nat.testBit_xor]
        cases i with
        | zero => simp [Nat.testBit_zero]; omega
        | succ i => simp [Nat.testBit_succ]
    rw [e, ← BitVec.xor_assoc, crcStep_xor, crcStep_if (BitVec.ofNat 32 (2 * (x / 2)))]
    congr 1
    have h0 : (BitVec.ofNat 32 (2 * (x / 2))).getLsbD 0 = false := by
      rw [BitVec.getLsbD_ofNat, Nat.testBit_zero]; simp
    rw [h0]
    simp only [Bool.false_eq_true, if_false]
    apply BitVec.eq_of_toNat_eq
    have hz : (0 : BitVec 32).toNat = 0 := rfl
    rw [BitVec.toNat_xor, BitVec.toNat_ushiftRight, BitVec.toNat_ofNat, BitVec.toNat_ofNat, hz, Nat.xor_zero, Nat.mod_eq_of_lt (by omega), Nat.mod_eq_of_lt (by omega), Nat.shiftRight_eq_div_pow]
    omega

theorem rev_dir (f : Nat → Bool) : ∀ n, rev (dir f (n + 1)) = bitStep (rev (dir f n)) (f n) := by
  intro n
  simp only [dir, bitStep]
  rw [rev_mulx, rev_xor]
  congr 2
  cases f n <;> decide

theorem rev_dir_byte (f : Nat → Bool) : ∀ (n x k : Nat), (∀ i, i < n → f (k + i) = x.testBit i) → rev (dir f (k + n)) = bitSteps x n (rev (dir f k))
  | 0, x, k, _ => rfl
  | n + 1, x, k, h => by
    have := rev_dir_byte f n (x / 2) (k + 1) (fun i hi => by
      rw [show k + 1 + i = k + (i + 1) by omega, h (i + 1) (by omega), Nat.testBit_succ])
    rw [show k + (n + 1) = k + 1 + n by omega, this, rev_dir]
    have h0 := h 0 (by omega)
    rw [Nat.add_zero] at h0
    rw [h0]; rfl

theorem dir_crc (l : List UInt8) : ∀ n, n ≤ l.length → rev (dir (bitOf l) (8 * n)) = (l.take n).foldl crcByte (~~~ 0)
  | 0, _ => by
    show rev 0xffffffff = ~~~ 0
    decide
  | n + 1, h => by
    rw [List.take_succ_eq_append_getElem (by omega), List.foldl_append, ← dir_crc l n (by omega)]
    show _ = crcSteps 8 (_ ^^^ BitVec.ofNat 32 (l[n]).toNat)
    rw [steps_bits 8 _ _ (l[n]).toNat_lt (by decide)]
    have := rev_dir_byte (bitOf l) 8 (l[n]).toNat (8 * n) (fun i hi => by
      unfold bitOf
      have h1 : (8 * n + i) / 8 = n := by omega
      have h2 : (8 * n + i) % 8 = i := by omega
      rw [h1, h2, List.getD_eq_getElem?_getD, List.getElem?_eq_getElem (by omega)]; rfl)
    exact this

theorem sums_same (l : List UInt8) : refSum l = crcSum l := by
  unfold refSum crcSum crcMore
  rw [refRest_eq, aug_dir (bitOf l) (8 * l.length) (fun i h => by
    unfold bitOf
    rw [List.getD_eq_getElem?_getD, List.getElem?_eq_none (by omega)]; simp)]
  have := dir_crc l l.length (Nat.le_refl _)
  rw [List.take_length] at this
  show rev (dir (bitOf l) (8 * l.length)) ^^^ 0xffffffff = _
  rw [this]
  have h : ∀ x : BitVec 32, x ^^^ 0xffffffff = ~~~ x := fun x => by
    rw [BitVec.xor_comm]; exact BitVec.allOnes_xor
  exact h _


-- the other laws
theorem crcMore_append (s : BitVec 32) (a b : List UInt8) : crcMore (crcMore s a) b = crcMore s (a ++ b) := by
  unfold crcMore
  rw [List.foldl_append, BitVec.not_not]
theorem crcMore_nil (s : BitVec 32) : crcMore s [] = s := by
  unfold crcMore
  simp

theorem crcSteps_xor (a b : BitVec 32) : ∀ n, crcSteps n (a ^^^ b) = crcSteps n a ^^^ crcSteps n b := by
  intro n
  induction n generalizing a b with
  | zero => rfl
  | succ n ih => simp only [crcSteps]; rw [crcStep_xor, ih]
theorem crcSteps_zero : ∀ n, crcSteps n 0 = 0
  | 0 => rfl
  | n + 1 => by
    simp only [crcSteps]
    have : crcStep 0 = 0 := by decide
    rw [this, crcSteps_zero n]
theorem crcStep_inj {r : BitVec 32} (h : crcStep r = 0) : r = 0 := by
  rw [crcStep_if] at h
  cases hb : r.getLsbD 0 with
  | false =>
    rw [hb] at h
    simp only [Bool.false_eq_true, if_false] at h
    have h : r >>> 1 = 0 := by rw [← h]; exact BitVec.xor_zero.symm
    apply BitVec.eq_of_getLsbD_eq
    intro i hi
    cases i with
    | zero => rw [hb]; simp
    | succ i =>
      have := congrArg (fun x => BitVec.getLsbD x i) h
      simp only [BitVec.getLsbD_ushiftRight] at this
      rw [show 1 + i = i + 1 by omega] at this
      rw [this]; simp
  | true =>
    rw [hb] at h
    have h31 := congrArg (fun x => BitVec.getLsbD x 31) h
    simp only [if_true, BitVec.getLsbD_xor, BitVec.getLsbD_ushiftRight] at h31
    have h2 : r.getLsbD (1 + 31) = false := BitVec.getLsbD_of_ge _ _ (by omega)
    rw [h2] at h31
    exact absurd h31 (by decide)
theorem crcSteps_inj : ∀ (n : Nat) {r : BitVec 32}, crcSteps n r = 0 → r = 0
  | 0, _, h => h
  | n + 1, _, h => crcStep_inj (crcSteps_inj n h)
theorem xor_eq_zero {a b : BitVec 32} : a ^^^ b = 0 ↔ a = b := by
  constructor
  · intro h
    have : a ^^^ b ^^^ b = 0 ^^^ b := by rw [h]
    rw [BitVec.xor_assoc, BitVec.xor_self, BitVec.xor_zero] at this
    rw [this]; exact BitVec.zero_xor
  · rintro rfl; exact BitVec.xor_self
theorem crcByte_inj {a b : BitVec 32} {x : UInt8} : crcByte a x = crcByte b x ↔ a = b := by
  constructor
  · intro h
    unfold crcByte at h
    have := xor_eq_zero.2 h
    rw [← crcSteps_xor] at this
    have := xor_eq_zero.1 (crcSteps_inj 8 this)
    have h2 : ∀ x y z : BitVec 32, x ^^^ z = y ^^^ z → x = y := fun x y z h => by
      have := congrArg (· ^^^ z) h
      simpa [BitVec.xor_assoc] using this
    exact h2 _ _ _ this
  · rintro rfl; rfl
theorem fold_inj : ∀ (l : List UInt8) {a b : BitVec 32}, l.foldl crcByte a = l.foldl crcByte b ↔ a = b
  | [], _, _ => Iff.rfl
  | x :: l, a, b => by
    simp only [List.foldl_cons]
    rw [fold_inj l, crcByte_inj]
theorem crcMore_inj (l : List UInt8) {a b : BitVec 32} : crcMore a l = crcMore b l ↔ a = b := by
  unfold crcMore
  rw [BitVec.not_inj, fold_inj, BitVec.not_inj]

end Go.Bv
