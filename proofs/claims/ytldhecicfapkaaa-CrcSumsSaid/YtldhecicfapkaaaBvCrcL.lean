/- Part of the lift: an abstract walk of the program's code, proved sound, and what it shows of this program. -/
import Derived.Test.YtldhecicfapkaaaBvCrcP
namespace Go.Bv
open Go Go.Proofs

theorem crcSums_walk (l : List UInt8) (hl : l.length ≤ reachBytes) : ACalls Try.prog 3 [bytes l] [] (.bool true) [] := by
  have hl := reach_lt hl
  refine ACalls_of crc noDr_snd Try.func3 rfl (by kernel_rfl) (Nat.le_of_ble_eq_true rfl) rfl ?_
  refine NCall.call awake_walk rfl rfl ?_
  refine NP.mk ⟨by simp; omega, by simp; omega⟩ ?_
  have e : AV.list .leaf ((l.map u8).take (Int.toNat (min ((l.map u8).length : Int) 2000))) = bytes (l.take 2000) := congrArg _ (cut_map u8 l 2000)
  refine NCall.eq (congrArg (fun x => [x]) e) (NCall.call (sum_walk (l.take 2000) (by simp; omega)) rfl rfl ?_)
  refine NCall.eq (congrArg (fun x => [x]) e) (NCall.call (ref_walk (l.take 2000) (by simp; omega)) rfl rfl ?_)
  refine NB.dec (fun h => ?_) (fun h => ?_)
  · exact NRet.mk [] rfl ⟨.refl _, rfl⟩
  · exact absurd (by rw [sums_same]) h

end Go.Bv
