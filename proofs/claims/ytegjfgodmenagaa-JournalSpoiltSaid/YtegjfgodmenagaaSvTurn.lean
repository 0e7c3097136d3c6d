/- Part of the lift: an abstract walk of the program's code, proved sound, and what it shows of this program. -/
import Derived.Test.YtegjfgodmenagaaSvScanP
namespace Go.Bv
set_option linter.unusedSimpArgs false
set_option linter.unusedVariables false
set_option maxHeartbeats 4000000
open Go

theorem crcByte_inj2 {r : BitVec 32} {x y : UInt8} (h : crcByte r x = crcByte r y) : x = y := by
  unfold crcByte at h
  have := xor_eq_zero.2 h
  rw [← crcSteps_xor] at this
  have := xor_eq_zero.1 (crcSteps_inj 8 this)
  have h2 : ∀ x y z : BitVec 32, z ^^^ x = z ^^^ y → x = y := fun x y z h => by
    have := congrArg (z ^^^ ·) h
    simpa [← BitVec.xor_assoc] using this
  have := congrArg BitVec.toNat (h2 _ _ _ this)
  simp only [BitVec.toNat_ofNat] at this
  have h3 := x.toNat_lt
  have h4 := y.toNat_lt
  apply UInt8.toNat_inj.1
  omega
theorem crcSum_set {l : List UInt8} {i : Nat} {y : UInt8} (hi : i < l.length) (h : y ≠ l[i]) : crcSum (l.set i y) ≠ crcSum l := by
  unfold crcSum crcMore
  intro hh
  have hh := BitVec.not_inj.1 hh
  have e1 : l = l.take i ++ l[i] :: l.drop (i + 1) := by
    rw [← List.drop_eq_getElem_cons hi, List.take_append_drop]
  have e2 : l.set i y = l.take i ++ y :: l.drop (i + 1) := by
    rw [List.set_eq_take_append_cons_drop, if_pos hi]
  rw [e2] at hh
  conv at hh => rhs; rw [e1]
  simp only [List.foldl_append, List.foldl_cons] at hh
  exact h (crcByte_inj2 ((fold_inj _).1 hh))


theorem xor_ne {a b : UInt8} (h : b ≠ 0) : a ^^^ b ≠ a := by
  intro e
  apply h
  have := congrArg (fun x => a ^^^ x) e
  simpa [← UInt8.xor_assoc] using this

/-- A frame in which one byte of the record or of its sum was turned is none. -/
theorem oneOf_turned {p r : List UInt8} {at' : Nat} {y : UInt8} (hp : p.length ≤ 1048576) (ha : at' < 4 + p.length) (hy : y ≠ (frameOf p).getD (4 + at') 0) : oneOf ((frameOf p).set (4 + at') y ++ r) = none := by
  have hl := frameOf_len p
  have e4 : ((frameOf p).set (4 + at') y ++ r).take 4 = four p.length := by
    rw [List.take_append_of_le_length (by simp; omega), List.take_set_of_le (by omega)]
    unfold frameOf
    rw [List.append_assoc, List.take_left' (four_len _)]
  have hn : num4 ((frameOf p).set (4 + at') y ++ r) = p.length := by
    rw [← List.take_append_drop 4 ((frameOf p).set (4 + at') y ++ r), e4]
    exact num4_four _ (by omega) _
  have hlen : ((frameOf p).set (4 + at') y ++ r).length = 8 + p.length + r.length := by simp; omega
  unfold oneOf
  rw [hn, if_neg (by omega), if_neg (by omega), if_neg]
  rw [e4]
  generalize hs : crcSum (four p.length ++ p) = s at *
  by_cases h4 : at' < 4
  · -- the sum was turned
    have e8 : (((frameOf p).set (4 + at') y ++ r).drop 8).take p.length = p := by
      rw [List.drop_append_of_le_length (by simp; omega), List.drop_set_of_lt (by omega), List.take_append_of_le_length (by simp; omega)]
      unfold frameOf
      rw [List.drop_left' (by simp [four_len]), List.take_length]
    rw [e8, hs]
    intro e
    have e5 : (((frameOf p).set (4 + at') y ++ r).drop 4).take 4 = (four s.toNat).set at' y := by
      rw [List.drop_append_of_le_length (by simp; omega), List.drop_set, if_neg (by omega), Nat.add_sub_cancel_left, List.take_append_of_le_length (by simp; omega), List.take_set]
      unfold frameOf
      rw [hs, List.append_assoc, List.drop_left' (four_len _), List.take_left' (four_len _)]
    have h1 := four_num4 (l := ((frameOf p).set (4 + at') y ++ r).drop 4) (by simp; omega)
    have h2 : num4 (((frameOf p).set (4 + at') y ++ r).drop 4) = s.toNat := by
      rw [e, BitVec.toNat_ofNat, Nat.mod_eq_of_lt (num4_lt _)]
    rw [e5, h2] at h1
    have h3 : (four s.toNat)[at']? = some y := by
      rw [h1, List.getElem?_set_self (by rw [four_len]; omega)]
    have h4' : (frameOf p)[4 + at']? = (four s.toNat)[at']? := by
      unfold frameOf
      rw [hs, List.append_assoc, List.getElem?_append_right (by rw [four_len]; omega), four_len, Nat.add_sub_cancel_left, List.getElem?_append_left (by rw [four_len]; omega)]
    apply hy
    rw [List.getD_eq_getElem?_getD, h4', h3]; rfl
  · -- the record was turned
    have e8 : (((frameOf p).set (4 + at') y ++ r).drop 8).take p.length = p.set (at' - 4) y := by
      rw [List.drop_append_of_le_length (by simp; omega), List.drop_set, if_neg (by omega), List.take_append_of_le_length (by simp; omega), List.take_set]
      unfold frameOf
      rw [List.drop_left' (by simp [four_len]), List.take_length]
      congr 1; omega
    have e5 : num4 (((frameOf p).set (4 + at') y ++ r).drop 4) = s.toNat := by
      rw [List.drop_append_of_le_length (by simp; omega), List.drop_set, if_neg (by omega), Nat.add_sub_cancel_left]
      have : ((frameOf p).drop 4).set at' y = four s.toNat ++ p.set (at' - 4) y := by
        unfold frameOf
        rw [hs, List.append_assoc, List.drop_left' (four_len _), List.set_append_right _ _ (by rw [four_len]; omega), four_len]
      rw [this, List.append_assoc]
      exact num4_four _ s.isLt _
    rw [e8, e5]
    have e6 : four p.length ++ p.set (at' - 4) y = (four p.length ++ p).set at' y := by
      rw [List.set_append_right _ _ (by rw [four_len]; omega), four_len]
    rw [e6]
    intro e
    refine crcSum_set (l := four p.length ++ p) (i := at') (y := y) (by simp [four_len]; omega) ?_ ?_
    · intro hh
      apply hy
      rw [hh, List.getD_eq_getElem?_getD]
      have h5 : (frameOf p)[4 + at']? = (four p.length ++ p)[at']? := by
        unfold frameOf
        rw [List.append_assoc, List.getElem?_append_right (by rw [four_len]; omega), four_len, Nat.add_sub_cancel_left, List.getElem?_append_right (by rw [four_len]; omega), four_len, List.getElem?_append_right (by rw [four_len]; omega), four_len]
      rw [h5, List.getElem?_eq_getElem (by simp [four_len]; omega)]; rfl
    · rw [e, hs]
      apply BitVec.eq_of_toNat_eq
      rw [BitVec.toNat_ofNat, Nat.mod_eq_of_lt s.isLt]

theorem set_mid {α : Type} (a b c : List α) (i : Nat) (y : α) (h : i < b.length) : (a ++ b ++ c).set (a.length + i) y = a ++ b.set i y ++ c := by
  rw [List.append_assoc, List.set_append_right _ _ (by omega), Nat.add_sub_cancel_left, List.set_append_left _ _ h, List.append_assoc]

theorem frames_append (a b : List (List UInt8)) : frames (a ++ b) = frames a ++ frames b := by simp [frames]
/-- Frames of which one was turned: those ahead of it are scanned. -/
theorem scan_turned (l : List (List UInt8)) (w at' : Nat) (y : UInt8) (hl : ∀ p ∈ l, p.length ≤ 1048576) (hw : w < l.length) (ha : at' < 4 + l[w].length) (hy : y ≠ (frames l).getD ((frames (l.take w)).length + 4 + at') 0) :
    scan ((frames l).set ((frames (l.take w)).length + 4 + at') y) = (l.take w, (frames (l.take w)).length) := by
  have hp := hl _ (List.getElem_mem hw)
  have hs : frames l = frames (l.take w) ++ frameOf l[w] ++ frames (l.drop (w + 1)) := by
    conv => lhs; rw [← List.take_append_drop w l, List.drop_eq_getElem_cons hw, frames_append, frames_cons, ← List.append_assoc]
  have hfl := frameOf_len l[w]
  rw [hs, Nat.add_assoc, set_mid _ _ _ _ _ (by omega), List.append_assoc]
  rw [scan_frames _ _ (fun p hp => hl p (List.mem_of_mem_take hp)), scan_none, List.append_nil, Nat.add_zero]
  refine oneOf_turned hp ha fun e => hy ?_
  rw [e, hs, Nat.add_assoc, List.getD_eq_getElem?_getD, List.getD_eq_getElem?_getD, List.append_assoc, List.getElem?_append_right (by omega), Nat.add_sub_cancel_left, List.getElem?_append_left (by omega)]
end Go.Bv
