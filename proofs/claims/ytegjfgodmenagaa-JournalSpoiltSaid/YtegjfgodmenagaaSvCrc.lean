/- Part of the lift: an abstract walk of the program's code, proved sound, and what it shows of this program. -/
import Derived.Test.YtegjfgodmenagaaBvCrcP
import Derived.Test.YtegjfgodmenagaaSvCom
namespace Go.Bv
open Go Go.Proofs
set_option linter.unusedVariables false

theorem crcMore_walk (s : BitVec 32) (l : List UInt8) (hl : l.length < 2 ^ 62) : ACalls Try.prog Nm.crc_More [u32 s, bytes l] [] (u32 (crcMore s l)) [] := by
  refine ACalls_of tab noDr_snd Nm.crc_More_h rfl (by kernel_rfl) (Nat.le_of_ble_eq_true rfl) rfl ?_
  refine NLoop.mk [] [5, 10, 11, 12] (fun m vs H => ∃ i, i ≤ l.length ∧ m = l.length - i ∧ H = [] ∧ vs = [u32 ((l.take i).foldl crcByte (~~~ s)), bytes l, i64 l.length, i64 i]) rfl ?_ ?_
  · refine Canon.mk [] rfl ?_
    show ∃ m, ∃ i, _
    refine ⟨l.length, 0, Nat.zero_le _, by omega, rfl, ?_⟩
    simp [u32, bytes, i64, not_u32]
  · rintro m vs H ⟨i, hi, rfl, rfl, rfl⟩
    refine NB.dec (fun h => ?_) (fun h => ?_)
    · have hi' : i < l.length := by omega
      refine NP.mk (Int.natCast_nonneg i) (NG.map (by simpa using hi') ?_)
      refine NW.mk _ rfl ?_
      refine NLoop.mk [] [5, 10, 11, 12, 20] (fun m vs H => ∃ j, j ≤ 8 ∧ m = 8 - j ∧ H = [] ∧ vs = [u32 (crcSteps j ((l.take i).foldl crcByte (~~~ s) ^^^ BitVec.ofNat 32 l[i].toNat)), bytes l, i64 l.length, i64 i, i64 j]) rfl ?_ ?_
      · refine Canon.mk [] rfl ?_
        show ∃ m, ∃ i, _
        refine ⟨8, 0, by omega, rfl, rfl, ?_⟩
        simp only [u32, crcSteps, conv_u8_u32, xor_u32]; rfl
      · rintro m vs H ⟨j, hj, rfl, rfl, rfl⟩
        refine NB.dec (fun h => ?_) (fun h => ?_)
        · refine NP.mk (by decide) (NW.mk _ rfl (NW.i64 (by omega) (by omega) ?_))
          refine Canon.mk [] rfl ?_
          show ∃ m, _ ∧ ∃ i, _
          refine ⟨8 - (j + 1), by omega, j + 1, by omega, rfl, rfl, ?_⟩
          simp only [u32, crcSteps_succ, crcStep_int]; rfl
        · refine NW.i64 (by omega) (by omega) ?_
          refine Canon.mk [] rfl ?_
          show ∃ m, _ ∧ ∃ i, _
          refine ⟨l.length - (i + 1), by omega, i + 1, by omega, rfl, rfl, ?_⟩
          have hj8 : j = 8 := by omega
          subst hj8
          have e : (l.take (i + 1)).foldl crcByte (~~~ s) = crcSteps 8 ((l.take i).foldl crcByte (~~~ s) ^^^ BitVec.ofNat 32 l[i].toNat) := by
            rw [List.take_succ_eq_append_getElem hi', List.foldl_append]; rfl
          rw [e]; rfl
    · have hil : i = l.length := by omega
      subst hil
      refine NRet.mk [] rfl ⟨?_, rfl⟩
      have e : u32 (crcMore s l) = .int .u32 (bitop .xor .u32 (if IntKind.u32.signed = true then -1 else IntKind.u32.max) ((l.take l.length).foldl crcByte (~~~ s)).toNat) := by
        rw [not_u32, List.take_length]; rfl
      rw [e]; exact .refl _

theorem crcSum_walk (l : List UInt8) (hl : l.length < 2 ^ 62) : ACalls Try.prog Nm.crc_Sum [bytes l] [] (u32 (crcSum l)) [] := by
  refine ACalls_of tab noDr_snd Nm.crc_Sum_h rfl (by kernel_rfl) (Nat.le_of_ble_eq_true rfl) rfl ?_
  refine NCall.call (crcMore_walk 0 l hl) rfl rfl ?_
  exact NRet.mk [] rfl ⟨.refl _, rfl⟩

theorem refSum_walk (l : List UInt8) (hl : l.length < 2 ^ 48) : ACalls Try.prog Nm.ref02_Sum [bytes l] [] (u32 (refSum l)) [] := by
  refine ACalls_of tab noDr_snd Nm.ref02_Sum_h rfl (by kernel_rfl) (Nat.le_of_ble_eq_true rfl) rfl ?_
  refine NW.i64 (by simp; omega) (by simp; omega) (NW.i64 (by simp; omega) (by simp; omega) ?_)
  refine NLoop.mk [] [0, 3, 4, 5] (fun m vs H => ∃ i, i ≤ 8 * l.length + 32 ∧ m = 8 * l.length + 32 - i ∧ H = [] ∧ vs = [bytes l, u64 (refRest l i), i64 (8 * l.length + 32 : Int), i64 i]) rfl ?_ ?_
  · refine Canon.mk [] rfl ⟨8 * l.length + 32, 0, Nat.zero_le _, by omega, rfl, ?_⟩
    simp [bytes, u64, i64, refRest]
  · rintro m vs H ⟨i, hi, rfl, rfl, rfl⟩
    refine NB.dec (fun h => ?_) (fun h => ?_)
    · refine NW.i64 (by simp; omega) (by simp; omega) ?_
      refine NB.dec (fun h1 => ?_) (fun h1 => ?_)
      · have h1 : i < 8 * l.length := by simp at h1; omega
        have e1 : ((i / 8 : Nat) : Int) = IntKind.wrap .i64 ((i : Int).tdiv 8) := by
          have := tdiv_nat i 8
          rw [show ((8 : Nat) : Int) = 8 from rfl] at this
          rw [this, wrap_i64 _ (by omega) (by omega)]
        have e2 : ((i % 8 : Nat) : Int) = IntKind.wrap .u64 ((i : Int).tmod 8) := by
          have := tmod_nat i 8
          rw [show ((8 : Nat) : Int) = 8 from rfl] at this
          rw [this, wrap_u64]; omega
        have e3 : ((BitVec.ofNat 64 (l[i / 8].toNat >>> (i % 8))).toNat : Int) = IntKind.wrap .u64 ((l[i / 8].toNat : Int).fdiv (2 ^ min (Int.toNat ((i % 8 : Nat) : Int)) IntKind.u8.bits)) := by
          have h8 : min (Int.toNat ((i % 8 : Nat) : Int)) IntKind.u8.bits = i % 8 := by
            show min (i % 8) 8 = i % 8
            omega
          rw [h8, shr_nat, wrap_u64, BitVec.toNat_ofNat]
          omega
        have hbit : (BitVec.ofNat 64 (l[i / 8].toNat >>> (i % 8)) &&& 1) = refBit l i := by
          unfold refBit
          rw [if_pos h1, List.getD_eq_getElem?_getD, List.getElem?_eq_getElem (by omega)]
          rfl
        refine NP.mk (by decide) (NW.mk ((i / 8 : Nat) : Int) e1 (NP.mk (Int.natCast_nonneg _) (NG.map (by simp; omega) ?_)))
        refine NP.mk (by decide) (NW.mk ((i % 8 : Nat) : Int) e2 (NP.mk (Int.natCast_nonneg _) (NW.mk ((BitVec.ofNat 64 (l[i / 8].toNat >>> (i % 8))).toNat : Int) e3 ?_)))
        refine NB.dec (fun h2 => ?_) (fun h2 => ?_)
        · have ht : bitop .xor .u64 (bitop .and .u64 (BitVec.ofNat 64 (l[i / 8].toNat >>> (i % 8))).toNat 1) 1 = (refTurn l i).toNat := by
            rw [one_u64, and_u64, hbit, xor_u64]
            unfold refTurn
            rw [if_pos (by omega)]
          refine NP.mk (by decide) (NP.mk (by decide) ?_)
          refine NB.dec (fun h3 => ?_) (fun h3 => ?_)
          · refine NW.i64 (by omega) (by omega) (Canon.mk [] rfl ⟨8 * l.length + 32 - (i + 1), by omega, i + 1, by omega, rfl, rfl, ?_⟩)
            rw [ht, lay_u64] at h3
            rw [ht, lay_u64, step_yes h3]; rfl
          · refine NW.i64 (by omega) (by omega) (Canon.mk [] rfl ⟨8 * l.length + 32 - (i + 1), by omega, i + 1, by omega, rfl, rfl, ?_⟩)
            rw [ht, lay_u64] at h3
            rw [ht, lay_u64, step_no h3]; rfl
        · have ht : bitop .and .u64 (BitVec.ofNat 64 (l[i / 8].toNat >>> (i % 8))).toNat 1 = (refTurn l i).toNat := by
            rw [one_u64, and_u64, hbit]
            unfold refTurn
            rw [if_neg (by omega)]
          refine NP.mk (by decide) (NP.mk (by decide) ?_)
          refine NB.dec (fun h3 => ?_) (fun h3 => ?_)
          · refine NW.i64 (by omega) (by omega) (Canon.mk [] rfl ⟨8 * l.length + 32 - (i + 1), by omega, i + 1, by omega, rfl, rfl, ?_⟩)
            rw [ht, lay_u64] at h3
            rw [ht, lay_u64, step_yes h3]; rfl
          · refine NW.i64 (by omega) (by omega) (Canon.mk [] rfl ⟨8 * l.length + 32 - (i + 1), by omega, i + 1, by omega, rfl, rfl, ?_⟩)
            rw [ht, lay_u64] at h3
            rw [ht, lay_u64, step_no h3]; rfl
      · have h1 : ¬ i < 8 * l.length := by simp at h1; omega
        have hbit : (0 : BitVec 64) = refBit l i := by
          unfold refBit
          rw [if_neg h1]
        have z0 : (0 : Int) = ((0 : BitVec 64).toNat : Int) := by decide
        refine NB.dec (fun h2 => ?_) (fun h2 => ?_)
        · have ht : bitop .xor .u64 0 1 = (refTurn l i).toNat := by
            rw [one_u64, z0, xor_u64, hbit]
            unfold refTurn
            rw [if_pos (by omega)]
          refine NP.mk (by decide) (NP.mk (by decide) ?_)
          refine NB.dec (fun h3 => ?_) (fun h3 => ?_)
          · refine NW.i64 (by omega) (by omega) (Canon.mk [] rfl ⟨8 * l.length + 32 - (i + 1), by omega, i + 1, by omega, rfl, rfl, ?_⟩)
            rw [ht, lay_u64] at h3
            rw [ht, lay_u64, step_yes h3]; rfl
          · refine NW.i64 (by omega) (by omega) (Canon.mk [] rfl ⟨8 * l.length + 32 - (i + 1), by omega, i + 1, by omega, rfl, rfl, ?_⟩)
            rw [ht, lay_u64] at h3
            rw [ht, lay_u64, step_no h3]; rfl
        · have ht : (0 : Int) = (refTurn l i).toNat := by
            rw [z0, hbit]
            unfold refTurn
            rw [if_neg (by omega)]
          refine NP.mk (by decide) (NP.mk (by decide) ?_)
          have hl0 := lay_u64 (refRest l i) (refTurn l i)
          rw [← ht] at hl0
          refine NB.dec (fun h3 => ?_) (fun h3 => ?_)
          · refine NW.i64 (by omega) (by omega) (Canon.mk [] rfl ⟨8 * l.length + 32 - (i + 1), by omega, i + 1, by omega, rfl, rfl, ?_⟩)
            rw [hl0] at h3
            rw [hl0, step_yes h3]; rfl
          · refine NW.i64 (by omega) (by omega) (Canon.mk [] rfl ⟨8 * l.length + 32 - (i + 1), by omega, i + 1, by omega, rfl, rfl, ?_⟩)
            rw [hl0] at h3
            rw [hl0, step_no h3]; rfl
    · have hi' : i = 8 * l.length + 32 := by omega
      subst hi'
      refine NLoop.mk [] [3, 7, 8] (fun m vs H => ∃ i, i ≤ 32 ∧ m = 32 - i ∧ H = [] ∧ vs = [u64 (refRest l (8 * l.length + 32)), u32 (refOut (refRest l (8 * l.length + 32)) i), i64 i]) rfl ?_ ?_
      · exact Canon.mk [] rfl ⟨32, 0, Nat.zero_le _, rfl, rfl, rfl⟩
      · generalize hr : refRest l (8 * l.length + 32) = r
        rintro m vs H ⟨i, hi, rfl, rfl, rfl⟩
        refine NB.dec (fun h => ?_) (fun h => ?_)
        · refine NP.mk (by decide) (NW.mk (i : Int) (by rw [wrap_u64]; omega) (NP.mk (Int.natCast_nonneg _) (NW.mk (((r >>> i).setWidth 32).toNat : Int) ?_ (NW.i64 (by omega) (by omega) (Canon.mk [] rfl ⟨32 - (i + 1), by omega, i + 1, by omega, rfl, rfl, ?_⟩)))))
          · have h8 : min (Int.toNat (i : Int)) IntKind.u64.bits = i := by
              show min i 64 = i
              omega
            rw [h8, shr_nat, wrap_u32, BitVec.toNat_setWidth, BitVec.toNat_ushiftRight]
            omega
          · have e : IntKind.wrap .u32 (((refOut r i).toNat : Int) * 2 ^ min (Int.toNat 1) IntKind.u32.bits) = ((refOut r i <<< 1).toNat : Int) := by
              have h1 : min (Int.toNat 1) IntKind.u32.bits = 1 := by decide
              rw [h1, wrap_u32, BitVec.toNat_shiftLeft, Nat.shiftLeft_eq]
              omega
            have h1 : (1 : Int) = ((1 : BitVec 32).toNat : Int) := by decide
            have : bitop .or .u32 (IntKind.wrap .u32 (((refOut r i).toNat : Int) * 2 ^ min (Int.toNat 1) IntKind.u32.bits)) (bitop .and .u32 ((r >>> i).setWidth 32).toNat 1) = (refOut r (i + 1)).toNat := by
              rw [e, h1, and_u32, or_u32]; rfl
            rw [this]; rfl
        · have hi' : i = 32 := by omega
          subst hi'
          refine NRet.mk [] rfl ⟨?_, rfl⟩
          have : bitop .xor .u32 (refOut r 32).toNat 4294967295 = ((refOut r 32 ^^^ 0xffffffff).toNat : Int) := by
            have h1 : (4294967295 : Int) = ((0xffffffff : BitVec 32).toNat : Int) := by decide
            rw [h1, xor_u32]
          show LeA (.int .u32 (bitop .xor .u32 (refOut r 32).toNat 4294967295)) _
          have hs : refSum l = refOut r 32 ^^^ 0xffffffff := by rw [← hr]; rfl
          rw [this, hs]; exact .refl _

end Go.Bv
