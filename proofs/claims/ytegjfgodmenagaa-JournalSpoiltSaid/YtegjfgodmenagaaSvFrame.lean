/- Part of the lift: an abstract walk of the program's code, proved sound, and what it shows of this program. -/
import Derived.Test.YtegjfgodmenagaaSvSl
import Derived.Test.YtegjfgodmenagaaSvCrc
namespace Go.Bv
set_option linter.unusedSimpArgs false
set_option linter.unusedVariables false
set_option maxHeartbeats 4000000
open Go Go.Proofs

/-- A number's four bytes, the lowest first. -/
def four (n : Nat) : List UInt8 := [UInt8.ofNat n, UInt8.ofNat (n / 256), UInt8.ofNat (n / 65536), UInt8.ofNat (n / 16777216)]
/-- The number that four bytes are. -/
def num4 (l : List UInt8) : Nat := (l.getD 0 0).toNat + 256 * (l.getD 1 0).toNat + 65536 * (l.getD 2 0).toNat + 16777216 * (l.getD 3 0).toNat

theorem sh_byte (n : Nat) (k : Int) (j : Nat) (hk : min (Int.toNat k) IntKind.u32.bits = j) : IntKind.wrap .u8 ((n : Int).fdiv (2 ^ min (Int.toNat k) IntKind.u32.bits)) = ((UInt8.ofNat (n / 2 ^ j)).toNat : Int) := by
  rw [hk, shr_nat, Nat.shiftRight_eq_div_pow, wrap_byte]
theorem or_u32n (a b : Nat) (ha : a < 2 ^ 32) (hb : b < 2 ^ 32) : bitop .or .u32 (a : Int) (b : Int) = ((a ||| b : Nat) : Int) := by
  show IntKind.wrap .u32 ((BitVec.ofInt 32 (a : Int) ||| BitVec.ofInt 32 (b : Int)).toNat : Int) = _
  have e : ∀ x : Nat, x < 2 ^ 32 → (BitVec.ofInt 32 (x : Int)).toNat = x := fun x hx => by
    simp only [BitVec.toNat_ofInt]; omega
  rw [BitVec.toNat_or, e a ha, e b hb, wrap_u32]
  have := Nat.or_lt_two_pow ha hb
  omega
theorem or_at (k : Nat) {a x : Nat} (ha : a < 2 ^ k) : a ||| (x * 2 ^ k) = a + x * 2 ^ k := by
  have := Nat.two_pow_add_eq_or_of_lt ha x
  rw [Nat.mul_comm x, Nat.add_comm a, this, Nat.or_comm]
theorem sh_u32 (x : UInt8) (k : Int) (j : Nat) (hk : min (Int.toNat k) IntKind.u32.bits = j) (hj : j ≤ 24) : IntKind.wrap .u32 (IntKind.wrap .u32 (x.toNat : Int) * 2 ^ min (Int.toNat k) IntKind.u32.bits) = ((x.toNat * 2 ^ j : Nat) : Int) := by
  have hx := x.toNat_lt
  rw [hk, wrap_u32 (x.toNat : Int), show ((x.toNat : Int) % 4294967296) = (x.toNat : Int) by omega]
  have e : ((x.toNat : Int) * 2 ^ j) = ((x.toNat * 2 ^ j : Nat) : Int) := by push_cast; rfl
  have hle : (2 : Nat) ^ j ≤ 2 ^ 24 := Nat.pow_le_pow_right (by decide) hj
  have hb : x.toNat * 2 ^ j ≤ 255 * 2 ^ 24 := Nat.mul_le_mul (by omega) hle
  rw [e, wrap_u32]
  omega

theorem four_walk (n : Nat) (hn : n < 2 ^ 32) : ACalls Try.prog Nm.frame_four [.int .u32 n] [] (bytes (four n)) [] := by
  refine ACalls_of tab (dr_snd tab mixed) Nm.frame_four_h rfl (by kernel_rfl) (Nat.le_of_ble_eq_true rfl) rfl ?_
  refine NW.mk _ rfl ?_
  refine NP.mk (by omega) ?_
  refine NW.mk _ rfl ?_
  refine NP.mk (by omega) ?_
  refine NW.mk _ rfl ?_
  refine NP.mk (by omega) ?_
  refine NW.mk _ rfl ?_
  refine NMk.lst ?_
  refine NRet.mk [] rfl ⟨?_, rfl⟩
  show LeA (.list .leaf [.int .u8 (IntKind.wrap .u8 (n : Int)), .int .u8 (IntKind.wrap .u8 ((n : Int).fdiv (2 ^ min (Int.toNat 8) IntKind.u32.bits))), .int .u8 (IntKind.wrap .u8 ((n : Int).fdiv (2 ^ min (Int.toNat 16) IntKind.u32.bits))), .int .u8 (IntKind.wrap .u8 ((n : Int).fdiv (2 ^ min (Int.toNat 24) IntKind.u32.bits)))]) _
  rw [sh_byte n 8 8 rfl, sh_byte n 16 16 rfl, sh_byte n 24 24 rfl, wrap_byte]
  exact .refl _

theorem number_walk (l : List UInt8) (hl : 4 ≤ l.length) (hb : l.length ≤ 2 ^ 46) : ACalls Try.prog Nm.frame_number [bytes l] [] (.int .u32 (num4 l)) [] := by
  refine ACalls_of tab (dr_snd tab mixed) Nm.frame_number_h rfl (by kernel_rfl) (Nat.le_of_ble_eq_true rfl) rfl ?_
  refine NP.mk (by kernel_rfl) ?_
  apply NDr.pure
  · exact ⟨rfl, rfl⟩
  apply NDr.pure
  · refine NP.mk (by omega) ?_
    refine NG.map (by omega) ?_
    exact ⟨rfl, rfl⟩
  apply NDr.pure
  · exact ⟨rfl, rfl⟩
  apply NDr.pure
  · refine NW.mk _ rfl ?_
    exact ⟨rfl, rfl⟩
  apply NDr.pure
  · exact ⟨rfl, rfl⟩
  apply NDr.pure
  · refine NP.mk (by omega) ?_
    refine NG.map (by omega) ?_
    exact ⟨rfl, rfl⟩
  apply NDr.pure
  · exact ⟨rfl, rfl⟩
  apply NDr.pure
  · refine NW.mk _ rfl ?_
    exact ⟨rfl, rfl⟩
  apply NDr.pure
  · refine NP.mk (by omega) ?_
    exact ⟨rfl, rfl⟩
  apply NDr.pure
  · exact ⟨rfl, rfl⟩
  apply NDr.pure
  · exact ⟨rfl, rfl⟩
  apply NDr.pure
  · refine NP.mk (by omega) ?_
    refine NG.map (by omega) ?_
    exact ⟨rfl, rfl⟩
  apply NDr.pure
  · exact ⟨rfl, rfl⟩
  apply NDr.pure
  · refine NW.mk _ rfl ?_
    exact ⟨rfl, rfl⟩
  apply NDr.pure
  · refine NP.mk (by omega) ?_
    exact ⟨rfl, rfl⟩
  apply NDr.pure
  · exact ⟨rfl, rfl⟩
  apply NDr.pure
  · exact ⟨rfl, rfl⟩
  apply NDr.pure
  · refine NP.mk (by omega) ?_
    refine NG.map (by omega) ?_
    exact ⟨rfl, rfl⟩
  apply NDr.pure
  · exact ⟨rfl, rfl⟩
  apply NDr.pure
  · refine NW.mk _ rfl ?_
    exact ⟨rfl, rfl⟩
  apply NDr.pure
  · refine NP.mk (by omega) ?_
    exact ⟨rfl, rfl⟩
  apply NDr.pure
  · exact ⟨rfl, rfl⟩
  apply NDr.pure
  · exact ⟨rfl, rfl⟩
  refine NP.mk (by kernel_rfl) ?_
  refine NRet.mk [] rfl ⟨?_, rfl⟩
  show LeA (.int .u32 (bitop .or .u32 (bitop .or .u32 (bitop .or .u32 (IntKind.wrap .u32 (l[0].toNat : Int)) (IntKind.wrap .u32 (IntKind.wrap .u32 (l[1].toNat : Int) * 2 ^ min (Int.toNat 8) IntKind.u32.bits))) (IntKind.wrap .u32 (IntKind.wrap .u32 (l[2].toNat : Int) * 2 ^ min (Int.toNat 16) IntKind.u32.bits)))
    (IntKind.wrap .u32 (IntKind.wrap .u32 (l[3].toNat : Int) * 2 ^ min (Int.toNat 24) IntKind.u32.bits)))) _
  have h0 := l[0].toNat_lt
  have hw0 : IntKind.wrap .u32 (l[0].toNat : Int) = (l[0].toNat : Int) := by rw [wrap_u32]; omega
  have h1 := l[1].toNat_lt
  have h2 := l[2].toNat_lt
  have h3 := l[3].toNat_lt
  rw [sh_u32 l[1] 8 8 rfl (by decide), sh_u32 l[2] 16 16 rfl (by decide), sh_u32 l[3] 24 24 rfl (by decide), hw0]
  rw [or_u32n _ _ (by omega) (by omega), or_at 8 (by omega), or_u32n _ _ (by omega) (by omega), or_at 16 (by omega), or_u32n _ _ (by omega) (by omega), or_at 24 (by omega)]
  have e : num4 l = l[0].toNat + l[1].toNat * 2 ^ 8 + l[2].toNat * 2 ^ 16 + l[3].toNat * 2 ^ 24 := by
    unfold num4
    simp only [List.getD_eq_getElem?_getD, List.getElem?_eq_getElem (show 0 < l.length by omega), List.getElem?_eq_getElem (show 1 < l.length by omega), List.getElem?_eq_getElem (show 2 < l.length by omega), List.getElem?_eq_getElem (show 3 < l.length by omega), Option.getD_some]
    omega
  rw [e]
  exact .refl _

theorem num4_four (n : Nat) (hn : n < 2 ^ 32) (r : List UInt8) : num4 (four n ++ r) = n := by
  simp only [num4, four, List.cons_append, List.getD_cons_zero, List.getD_cons_succ, UInt8.toNat_ofNat']
  omega
theorem four_len (n : Nat) : (four n).length = 4 := rfl

/-- A record's frame. -/
def frameOf (p : List UInt8) : List UInt8 := four p.length ++ four (crcSum (four p.length ++ p)).toNat ++ p

theorem lay_walk (b p : List UInt8) (hb : b.length ≤ 2 ^ 40) (hp : p.length ≤ 1048576) : ACalls Try.prog Nm.frame_Lay [bytes b, bytes p] [] (.tup [bytes (b ++ frameOf p), i64 0]) [] := by
  refine ACalls_of tab (dr_snd tab mixed) Nm.frame_Lay_h rfl (by kernel_rfl) (Nat.le_of_ble_eq_true rfl) rfl ?_
  have e : IntKind.wrap .u32 ((p.map u8).length : Int) = (p.length : Int) := by rw [List.length_map, wrap_u32]; omega
  have h1 := four_walk p.length (by omega)
  have h2 := crcSum_walk (four p.length) (by rw [four_len]; decide)
  have h3 := crcMore_walk (crcSum (four p.length)) p (by omega)
  have h4 := four_walk (crcSum (four p.length ++ p)).toNat (crcSum (four p.length ++ p)).isLt
  rw [show crcMore (crcSum (four p.length)) p = crcSum (four p.length ++ p) from crcMore_append 0 (four p.length) p] at h3
  have h5 := concatB_walk [b, four p.length, four (crcSum (four p.length ++ p)).toNat, p] (by simp [four_len]; omega) (by simp)
  rw [show [b, four p.length, four (crcSum (four p.length ++ p)).toNat, p].flatten = b ++ frameOf p by simp [frameOf]] at h5
  refine ND.no (by (simp only [List.length_map, List.length_append, List.length_replicate, List.length_cons, List.length_nil, List.length_take, List.length_drop]; omega)) ?_
  refine NW.mk _ rfl ?_
  rw [(e)]
  refine NCall.call (h1) rfl rfl ?_
  refine NCall.call (h2) rfl rfl ?_
  refine NCall.call (h3) rfl rfl ?_
  refine NCall.call (h4) rfl rfl ?_
  refine NCall.call (h5) rfl rfl ?_
  exact NRet.mk [] rfl ⟨.refl _, rfl⟩
theorem lay_bad (b p : List UInt8) (hp : 1048576 < p.length) : ACalls Try.prog Nm.frame_Lay [bytes b, bytes p] [] (.tup [.nils, i64 4]) [] := by
  refine ACalls_of tab (dr_snd tab mixed) Nm.frame_Lay_h rfl (by kernel_rfl) (Nat.le_of_ble_eq_true rfl) rfl ?_
  refine ND.yes (by (simp only [List.length_map, List.length_append, List.length_replicate, List.length_cons, List.length_nil, List.length_take, List.length_drop]; omega)) ?_
  exact NRet.mk [] rfl ⟨.refl _, rfl⟩

/-- Is there a frame at the beginning: how long it is. -/
def oneOf (l : List UInt8) : Option Nat :=
  if l.length < 8 then none
  else if 1048576 < num4 l ∨ l.length - 8 < num4 l then none
  else if crcSum (l.take 4 ++ (l.drop 8).take (num4 l)) = BitVec.ofNat 32 (num4 (l.drop 4)) then some (8 + num4 l) else none
def oneLen (l : List UInt8) : Nat := if l.length < 8 then 0 else if 1048576 < num4 l ∨ l.length - 8 < num4 l then 0 else 8 + num4 l
theorem oneOf_len {l : List UInt8} {n : Nat} (h : oneOf l = some n) : oneLen l = n ∧ 8 ≤ n ∧ n ≤ l.length := by
  unfold oneOf at h
  unfold oneLen
  split at h
  · cases h
  · rename_i h1
    rw [if_neg h1]
    split at h
    · cases h
    · rename_i h2
      rw [if_neg h2]
      split at h
      · simp only [Option.some.injEq] at h
        omega
      · cases h
theorem num4_lt (l : List UInt8) : num4 l < 2 ^ 32 := by
  unfold num4
  have h0 := (l.getD 0 0).toNat_lt
  have h1 := (l.getD 1 0).toNat_lt
  have h2 := (l.getD 2 0).toNat_lt
  have h3 := (l.getD 3 0).toNat_lt
  omega

theorem one_walk (l : List UInt8) (hl : l.length ≤ 2 ^ 40) : ACalls Try.prog Nm.frame_one [bytes l] [] (.tup [i64 (oneLen l), .bool (oneOf l).isSome]) [] := by
  refine ACalls_of tab (dr_snd tab mixed) Nm.frame_one_h rfl (by kernel_rfl) (Nat.le_of_ble_eq_true rfl) rfl ?_
  by_cases h8 : l.length < 8
  · rw [show oneLen l = 0 from if_pos h8, show oneOf l = none from if_pos h8]
    refine ND.yes (by (simp only [List.length_map, List.length_append, List.length_replicate, List.length_cons, List.length_nil, List.length_take, List.length_drop]; omega)) ?_
    exact NRet.mk [] rfl ⟨.refl _, rfl⟩
  · have h1 := number_walk l (by omega) (by omega)
    have h4 := number_walk (l.drop 4) (by simp; omega) (by simp; omega)
    have hn := num4_lt l
    have hn4 := num4_lt (l.drop 4)
    by_cases hb : 1048576 < num4 l ∨ l.length - 8 < num4 l
    · rw [show oneLen l = 0 by unfold oneLen; rw [if_neg h8, if_pos hb], show oneOf l = none by unfold oneOf; rw [if_neg h8, if_pos hb]]
      generalize num4 l = n at *
      rcases hb with hb | hb
      · refine ND.no (by (simp only [List.length_map, List.length_append, List.length_replicate, List.length_cons, List.length_nil, List.length_take, List.length_drop]; omega)) ?_
        refine NCall.call (h1) rfl rfl ?_
        refine ND.yes (by omega) ?_
        exact NRet.mk [] rfl ⟨.refl _, rfl⟩
      · by_cases hb' : 1048576 < n
        · refine ND.no (by (simp only [List.length_map, List.length_append, List.length_replicate, List.length_cons, List.length_nil, List.length_take, List.length_drop]; omega)) ?_
          refine NCall.call (h1) rfl rfl ?_
          refine ND.yes (by omega) ?_
          exact NRet.mk [] rfl ⟨.refl _, rfl⟩
        · refine ND.no (by (simp only [List.length_map, List.length_append, List.length_replicate, List.length_cons, List.length_nil, List.length_take, List.length_drop]; omega)) ?_
          refine NCall.call (h1) rfl rfl ?_
          refine ND.no (by omega) ?_
          refine NW.i64 (by omega) (by omega) ?_
          refine NW.i64 (by (simp only [List.length_map, List.length_append, List.length_replicate, List.length_cons, List.length_nil, List.length_take, List.length_drop]; omega)) (by (simp only [List.length_map, List.length_append, List.length_replicate, List.length_cons, List.length_nil, List.length_take, List.length_drop]; omega)) ?_
          refine ND.yes (by (simp only [List.length_map, List.length_append, List.length_replicate, List.length_cons, List.length_nil, List.length_take, List.length_drop]; omega)) ?_
          exact NRet.mk [] rfl ⟨.refl _, rfl⟩
    · rw [show oneLen l = 8 + num4 l by unfold oneLen; rw [if_neg h8, if_neg hb], show oneOf l = if crcSum (l.take 4 ++ (l.drop 8).take (num4 l)) = BitVec.ofNat 32 (num4 (l.drop 4)) then some (8 + num4 l) else none by unfold oneOf; rw [if_neg h8, if_neg hb]]
      have h2 := crcSum_walk (l.take 4) (by simp; omega)
      have h3 := crcMore_walk (crcSum (l.take 4)) ((l.drop 8).take (num4 l)) (by simp; omega)
      rw [show crcMore (crcSum (l.take 4)) ((l.drop 8).take (num4 l)) = crcSum (l.take 4 ++ (l.drop 8).take (num4 l)) from crcMore_append 0 (l.take 4) _] at h3
      generalize crcSum (l.take 4 ++ (l.drop 8).take (num4 l)) = s at *
      have e1 : (l.map u8).take (Int.toNat 4) = (l.take 4).map u8 := by rw [List.map_take]; rfl
      have e2 : ((l.map u8).take (8 + (num4 l : Int)).toNat).drop (Int.toNat 8) = ((l.drop 8).take (num4 l)).map u8 := by
        rw [show (8 + (num4 l : Int)).toNat = 8 + num4 l by omega, List.map_take, List.map_drop, List.drop_take]
        congr 1; exact Nat.add_sub_cancel_left ..
      have e3 : (l.map u8).drop (Int.toNat 4) = (l.drop 4).map u8 := by rw [List.map_drop]; rfl
      generalize num4 (l.drop 4) = z at *
      generalize hnn : num4 l = n at *
      have hs : ((s.toNat : Int) = (z : Int)) ↔ s = BitVec.ofNat 32 z := by
        rw [← BitVec.toNat_inj, BitVec.toNat_ofNat]; omega
      refine ND.no (by (simp only [List.length_map, List.length_append, List.length_replicate, List.length_cons, List.length_nil, List.length_take, List.length_drop]; omega)) ?_
      refine NCall.call (h1) rfl rfl ?_
      refine ND.no (by omega) ?_
      refine NW.i64 (by omega) (by omega) ?_
      refine NW.i64 (by (simp only [List.length_map, List.length_append, List.length_replicate, List.length_cons, List.length_nil, List.length_take, List.length_drop]; omega)) (by (simp only [List.length_map, List.length_append, List.length_replicate, List.length_cons, List.length_nil, List.length_take, List.length_drop]; omega)) ?_
      refine ND.no (by (simp only [List.length_map, List.length_append, List.length_replicate, List.length_cons, List.length_nil, List.length_take, List.length_drop]; omega)) ?_
      refine NW.i64 (by omega) (by omega) ?_
      refine NW.i64 (by omega) (by omega) ?_
      refine NP.mk (by kernel_rfl) ?_
      apply NDr.pure
      · exact ⟨rfl, rfl⟩
      apply NDr.pure
      · exact ⟨rfl, rfl⟩
      apply NDr.pure
      · refine NP.mk (by (simp only [List.length_map, List.length_append, List.length_replicate, List.length_cons, List.length_nil, List.length_take, List.length_drop]; omega)) ?_
        rw [(e1)]
        exact ⟨rfl, rfl⟩
      apply NDr.pure
      · refine NCall.call (h2) rfl rfl ?_
        exact ⟨rfl, rfl⟩
      apply NDr.pure
      · exact ⟨rfl, rfl⟩
      apply NDr.pure
      · exact ⟨rfl, rfl⟩
      apply NDr.pure
      · refine NP.mk (by (simp only [List.length_map, List.length_append, List.length_replicate, List.length_cons, List.length_nil, List.length_take, List.length_drop]; omega)) ?_
        rw [(e2)]
        exact ⟨rfl, rfl⟩
      apply NDr.pure
      · refine NCall.call (h3) rfl rfl ?_
        exact ⟨rfl, rfl⟩
      apply NDr.pure
      · exact ⟨rfl, rfl⟩
      apply NDr.pure
      · refine NP.mk (by (simp only [List.length_map, List.length_append, List.length_replicate, List.length_cons, List.length_nil, List.length_take, List.length_drop]; omega)) ?_
        rw [(e3)]
        exact ⟨rfl, rfl⟩
      apply NDr.pure
      · refine NCall.call (h4) rfl rfl ?_
        exact ⟨rfl, rfl⟩
      apply NDr.pure
      · exact NB.det
      apply NDr.pure
      · exact ⟨rfl, rfl⟩
      apply NDr.pure
      · exact ⟨rfl, rfl⟩
      refine NP.mk (by kernel_rfl) ?_
      have hfin : (if s = BitVec.ofNat 32 z then some (8 + n) else none).isSome = decide ((s.toNat : Int) = (z : Int)) := by
        by_cases hq : s = BitVec.ofNat 32 z
        · rw [if_pos hq, decide_eq_true (hs.2 hq)]; rfl
        · rw [if_neg hq, decide_eq_false (fun h => hq (hs.1 h))]; rfl
      rw [hfin]
      exact NRet.mk [] rfl ⟨.refl _, rfl⟩

/-- The records that stand at the beginning of bytes, and where they end. -/
def scan (l : List UInt8) : List (List UInt8) × Nat :=
  match h : oneOf l with
  | none => ([], 0)
  | some n => ((l.take n).drop 8 :: (scan (l.drop n)).1, n + (scan (l.drop n)).2)
termination_by l.length
decreasing_by
  all_goals
    obtain ⟨_, h8, hn⟩ := oneOf_len h
    simp only [List.length_drop]; omega
theorem scan_none {l : List UInt8} (h : oneOf l = none) : scan l = ([], 0) := by
  rw [scan]; split
  · rfl
  · rename_i n hn; rw [h] at hn; cases hn
theorem scan_some {l : List UInt8} {n : Nat} (h : oneOf l = some n) : scan l = ((l.take n).drop 8 :: (scan (l.drop n)).1, n + (scan (l.drop n)).2) := by
  rw [scan]; split
  · rename_i hn; rw [h] at hn; cases hn
  · rename_i m hm; rw [h] at hm; cases hm; rfl

def recs (l : List (List UInt8)) : AV := .list .leaf (l.map bytes)

theorem scan_walk (l : List UInt8) (hl : l.length ≤ 2 ^ 39) : ACalls Try.prog Nm.frame_Scan [bytes l] [] (.tup [recs (scan l).1, i64 (scan l).2]) [] := by
  refine ACalls_of tab (dr_snd tab mixed) Nm.frame_Scan_h rfl (by kernel_rfl) (Nat.le_of_ble_eq_true rfl) rfl ?_
  refine NLoop.mk [(4, .leaf)] [0, 4, 5] (fun m vs H => ∃ (k : Nat) (r : List (List UInt8)), k ≤ l.length ∧ m = l.length - k ∧ r.length ≤ k ∧ scan l = (r ++ (scan (l.drop k)).1, k + (scan (l.drop k)).2) ∧ H = [.row .vrow .leaf (r.map bytes)] ∧ vs = [bytes l, .own 0 0 r.length, i64 k]) rfl ?_ ?_
  · exact Canon.mk [0] rfl ⟨l.length, 0, [], Nat.zero_le _, rfl, Nat.le_refl _, by rw [List.drop_zero, List.nil_append, Nat.zero_add], rfl, rfl⟩
  · rintro m vs H ⟨k, r, hk, rfl, hr, hs, rfl, rfl⟩
    have h1 := one_walk (l.drop k) (by simp; omega)
    have e1 : (l.map u8).drop (Int.toNat (k : Int)) = (l.drop k).map u8 := by rw [List.map_drop]; rfl
    cases ho : oneOf (l.drop k) with
    | none =>
      rw [ho] at h1
      rw [scan_none ho, List.append_nil, Nat.add_zero] at hs
      rw [hs]
      refine NP.mk (by (simp only [List.length_map, List.length_append, List.length_replicate, List.length_cons, List.length_nil, List.length_take, List.length_drop]; omega)) ?_
      rw [(e1)]
      refine NCall.call (h1) rfl rfl ?_
      exact NRet.mk [] rfl (NFrz.mk (r.map bytes) (by simp) (by rw [List.drop_zero, List.take_of_length_le (by simp)]) ⟨.refl _, rfl⟩)
    | some n =>
      obtain ⟨hlen, h8, hn⟩ := oneOf_len ho
      rw [ho, hlen] at h1
      rw [List.length_drop] at hn
      have hc := cloneB_list ((l.drop (k + 8)).take (n - 8)) (by simp; omega)
      have e2 : ((l.map u8).take ((k : Int) + (n : Int)).toNat).drop ((k : Int) + 8).toNat = ((l.drop (k + 8)).take (n - 8)).map u8 := by
        rw [show ((k : Int) + (n : Int)).toNat = k + n by omega, show ((k : Int) + 8).toNat = k + 8 by omega, List.drop_take, List.map_take, List.map_drop]
        congr 1; omega
      have er : ((l.drop k).take n).drop 8 = (l.drop (k + 8)).take (n - 8) := by rw [List.drop_take, List.drop_drop]
      refine NP.mk (by (simp only [List.length_map, List.length_append, List.length_replicate, List.length_cons, List.length_nil, List.length_take, List.length_drop]; omega)) ?_
      rw [(e1)]
      refine NCall.call (h1) rfl rfl ?_
      refine NW.i64 (by omega) (by omega) ?_
      refine NW.i64 (by omega) (by omega) ?_
      refine NP.mk (by (simp only [List.length_map, List.length_append, List.length_replicate, List.length_cons, List.length_nil, List.length_take, List.length_drop]; omega)) ?_
      rw [(e2)]
      refine NCall.call (hc) rfl rfl ?_
      refine NFz.own ?_
      refine NApp.endA (by simp) (by simp; omega) ?_
      refine NW.i64 (by omega) (by omega) ?_
      rw [scan_some ho, er, List.drop_drop] at hs
      refine Canon.mk [1] rfl ⟨l.length - (k + n), by omega, k + n, r ++ [(l.drop (k + 8)).take (n - 8)], by omega, rfl, by simp; omega, by rw [hs, List.append_assoc, Nat.add_assoc]; rfl, by rw [List.map_append]; rfl, ?_⟩
      have hlen : ∀ z : AV, (r.map bytes ++ [z]).length = (r ++ [(l.drop (k + 8)).take (n - 8)]).length := fun z => by simp
      exact congrArg (fun x => [bytes l, AV.own 0 0 x, i64 ((k : Int) + (n : Int))]) (hlen _)

end Go.Bv
