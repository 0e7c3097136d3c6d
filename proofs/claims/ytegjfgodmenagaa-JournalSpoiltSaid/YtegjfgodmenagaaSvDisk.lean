/- Part of the lift: an abstract walk of the program's code, proved sound, and what it shows of this program. -/
import Derived.Test.YtegjfgodmenagaaSvSl
namespace Go.Bv
set_option linter.unusedSimpArgs false
set_option linter.unusedVariables false
set_option maxHeartbeats 4000000
open Go Go.Proofs

def diskA (f l : List UInt8) : AV := .agg [bytes f, bytes l]

theorem concat2 (a b : List UInt8) (h : a.length + b.length ≤ 2 ^ 45) : ACalls Try.prog Nm.slices_Concat_byte_byte [.list .leaf [bytes a, bytes b]] [] (bytes (a ++ b)) [] := by
  have := concatB_walk [a, b] (by simp; omega) (by simp)
  simpa using this
theorem concat1 (a : List UInt8) (h : a.length ≤ 2 ^ 45) : ACalls Try.prog Nm.slices_Concat_byte_byte [.list .leaf [bytes a]] [] (bytes a) [] := by
  have := concatB_walk [a] (by simp; omega) (by simp)
  simpa using this

theorem diskAll_walk (f l : List UInt8) (h : f.length + l.length ≤ 2 ^ 45) : ACalls Try.prog Nm.disk_All [diskA f l] [] (bytes (f ++ l)) [] := by
  refine ACalls_of tab (dr_snd tab mixed) Nm.disk_All_h rfl (by kernel_rfl) (Nat.le_of_ble_eq_true rfl) rfl ?_
  refine NCall.call (concat2 f l h) rfl rfl ?_
  exact NRet.mk [] rfl ⟨.refl _, rfl⟩

theorem diskWrite_walk (f l b : List UInt8) (h : f.length + l.length + b.length ≤ 2 ^ 44) : ACalls Try.prog Nm.disk_Write [diskA f l, bytes b] [] (if f.length + l.length + b.length ≤ 4194304 then .tup [diskA f (l ++ b), i64 0] else .tup [diskA [] [], i64 6]) [] := by
  refine ACalls_of tab (dr_snd tab mixed) Nm.disk_Write_h rfl (by kernel_rfl) (Nat.le_of_ble_eq_true rfl) rfl ?_
  by_cases hf : f.length + l.length + b.length ≤ 4194304
  · rw [if_pos hf]
    refine ND.no (by (simp only [List.length_map, List.length_append, List.length_replicate, List.length_cons, List.length_nil, List.length_take, List.length_drop]; omega)) ?_
    refine NW.i64 (by (simp only [List.length_map, List.length_append, List.length_replicate, List.length_cons, List.length_nil, List.length_take, List.length_drop]; omega)) (by (simp only [List.length_map, List.length_append, List.length_replicate, List.length_cons, List.length_nil, List.length_take, List.length_drop]; omega)) ?_
    refine ND.no (by (simp only [List.length_map, List.length_append, List.length_replicate, List.length_cons, List.length_nil, List.length_take, List.length_drop]; omega)) ?_
    refine NW.i64 (by (simp only [List.length_map, List.length_append, List.length_replicate, List.length_cons, List.length_nil, List.length_take, List.length_drop]; omega)) (by (simp only [List.length_map, List.length_append, List.length_replicate, List.length_cons, List.length_nil, List.length_take, List.length_drop]; omega)) ?_
    refine NW.i64 (by (simp only [List.length_map, List.length_append, List.length_replicate, List.length_cons, List.length_nil, List.length_take, List.length_drop]; omega)) (by (simp only [List.length_map, List.length_append, List.length_replicate, List.length_cons, List.length_nil, List.length_take, List.length_drop]; omega)) ?_
    refine ND.no (by (simp only [List.length_map, List.length_append, List.length_replicate, List.length_cons, List.length_nil, List.length_take, List.length_drop]; omega)) ?_
    refine NP.mk (by kernel_rfl) ?_
    apply NDr.rd [0]
    · intro fH TH
      exact ⟨rfl, rfl⟩
    apply NDr.rd [0]
    · intro fH TH
      exact ⟨rfl, rfl⟩
    apply NDr.pure
    · refine NCall.call (cloneB_list f (by omega)) rfl rfl ?_
      exact ⟨rfl, rfl⟩
    apply NDr.rd [0]
    · intro fH TH
      exact ⟨rfl, rfl⟩
    apply NDr.rd [0]
    · intro fH TH
      exact ⟨rfl, rfl⟩
    apply NDr.pure
    · exact ⟨rfl, rfl⟩
    apply NDr.pure
    · exact ⟨rfl, rfl⟩
    apply NDr.pure
    · refine NCall.call (concat2 l b (by omega)) rfl rfl ?_
      exact ⟨rfl, rfl⟩
    apply NDr.pure
    · exact ⟨rfl, rfl⟩
    apply NDr.efw [1]
    · exact ⟨rfl, rfl⟩
    · repeat (first | exact trivial | refine ⟨by first | trivial | rfl, ?_⟩)
    apply NDr.pure
    · exact ⟨rfl, rfl⟩
    refine NP.mk (by kernel_rfl) ?_
    exact NRet.mk [] rfl ⟨.refl _, rfl⟩
  · rw [if_neg hf]
    refine NB.dec (fun hk1 => ?_) (fun hk1 => ?_)
    · exact NRet.mk [] rfl ⟨by repeat (first | exact LeA.refl _ | exact LeA.nils _ | refine LeA.agg ?_ | refine LeA.tup ?_ | exact LeAs.nil | refine LeAs.cons ?_ ?_), rfl⟩
    refine NW.i64 (by omega) (by omega) ?_
    refine NB.dec (fun hk2 => ?_) (fun hk2 => ?_)
    · exact NRet.mk [] rfl ⟨by repeat (first | exact LeA.refl _ | exact LeA.nils _ | refine LeA.agg ?_ | refine LeA.tup ?_ | exact LeAs.nil | refine LeAs.cons ?_ ?_), rfl⟩
    refine NW.i64 (by omega) (by omega) ?_
    refine NW.i64 (by omega) (by omega) ?_
    refine ND.yes (by (simp only [List.length_map, List.length_append, List.length_replicate, List.length_cons, List.length_nil, List.length_take, List.length_drop]; omega)) ?_
    exact NRet.mk [] rfl ⟨by repeat (first | exact LeA.refl _ | exact LeA.nils _ | refine LeA.agg ?_ | refine LeA.tup ?_ | exact LeAs.nil | refine LeAs.cons ?_ ?_), rfl⟩

theorem diskSync_walk (f l : List UInt8) (h : f.length + l.length ≤ 2 ^ 45) : ACalls Try.prog Nm.disk_Sync [diskA f l] [] (diskA (f ++ l) []) [] := by
  refine ACalls_of tab (dr_snd tab mixed) Nm.disk_Sync_h rfl (by kernel_rfl) (Nat.le_of_ble_eq_true rfl) rfl ?_
  refine NCall.call (diskAll_walk f l h) rfl rfl ?_
  exact NRet.mk [] rfl ⟨by repeat (first | exact LeA.refl _ | exact LeA.nils _ | refine LeA.agg ?_ | refine LeA.tup ?_ | exact LeAs.nil | refine LeAs.cons ?_ ?_), rfl⟩

theorem diskCrash_walk (f l : List UInt8) (k : Int) (h : f.length + l.length ≤ 2 ^ 45) : ACalls Try.prog Nm.disk_Crash [diskA f l, i64 k] [] (diskA (f ++ l.take k.toNat) []) [] := by
  refine ACalls_of tab (dr_snd tab mixed) Nm.disk_Crash_h rfl (by kernel_rfl) (Nat.le_of_ble_eq_true rfl) rfl ?_
  have e : l.take (min (max k 0) (l.length : Int)).toNat = l.take k.toNat := by
    rcases Nat.le_total l.length k.toNat with h | h
    · rw [List.take_of_length_le h, List.take_of_length_le (by omega)]
    · congr 1; omega
  have hc := concat2 f (l.take k.toNat) (by simp; omega)
  rw [← e] at hc ⊢
  unfold bytes at hc
  rw [List.map_take] at hc
  refine NP.mk (by kernel_rfl) ?_
  apply NDr.rd [0]
  · intro fH TH
    exact ⟨rfl, rfl⟩
  apply NDr.rd [0]
  · intro fH TH
    exact ⟨rfl, rfl⟩
  apply NDr.rd [0]
  · intro fH TH
    exact ⟨rfl, rfl⟩
  apply NDr.rd [0]
  · intro fH TH
    exact ⟨rfl, rfl⟩
  apply NDr.pure
  · exact ⟨rfl, rfl⟩
  apply NDr.pure
  · refine NP.mk (by omega) ?_
    exact ⟨rfl, rfl⟩
  apply NDr.pure
  · exact ⟨rfl, rfl⟩
  apply NDr.pure
  · refine NCall.eq (by simp only [List.length_map] <;> exact rfl) ?_
    refine NCall.call (hc) rfl rfl ?_
    exact ⟨rfl, rfl⟩
  apply NDr.pure
  · exact ⟨rfl, rfl⟩
  apply NDr.efw [1]
  · exact ⟨rfl, rfl⟩
  · repeat (first | exact trivial | refine ⟨by first | trivial | rfl, ?_⟩)
  refine NP.mk (by kernel_rfl) ?_
  exact NRet.mk [] rfl ⟨by repeat (first | exact LeA.refl _ | exact LeA.nils _ | refine LeA.agg ?_ | refine LeA.tup ?_ | exact LeAs.nil | refine LeAs.cons ?_ ?_), rfl⟩

end Go.Bv
