/- Part of the lift: an abstract walk of the program's code, proved sound, and what it shows of this program. -/
import Derived.Test.YtegjfgodmenagaaSvFrameR
import Derived.Test.YtegjfgodmenagaaSvDiskR
namespace Go.Bv
set_option linter.unusedSimpArgs false
set_option linter.unusedVariables false
set_option maxHeartbeats 4000000
open Go Go.Proofs

theorem frameOf_len (p : List UInt8) : (frameOf p).length = p.length + 8 := by simp only [frameOf, List.length_append, four_len]; omega
theorem scan_le : ∀ (n : Nat) (l : List UInt8), l.length ≤ n → (scan l).2 ≤ l.length
  | 0, l, h => by
    cases ho : oneOf l with
    | none => rw [scan_none ho]; exact Nat.zero_le _
    | some k => have := oneOf_len ho; omega
  | n + 1, l, h => by
    cases ho : oneOf l with
    | none => rw [scan_none ho]; exact Nat.zero_le _
    | some k =>
      obtain ⟨_, h8, hk⟩ := oneOf_len ho
      rw [scan_some ho]
      have := scan_le n (l.drop k) (by simp; omega)
      simp only [List.length_drop] at this
      show k + (scan (l.drop k)).2 ≤ l.length
      omega

theorem append_walk (f l p : List UInt8) (h : f.length + l.length ≤ 2 ^ 40) (hp : p.length ≤ 1048576) : ACalls Try.prog Nm.journal_Append [diskA f l, bytes p] [] (if f.length + l.length + (p.length + 8) ≤ 4194304 then .tup [diskA f (l ++ frameOf p), i64 0] else .tup [diskA [] [], i64 6]) [] := by
  refine ACalls_of tab (dr_snd tab mixed) Nm.journal_Append_h rfl (by kernel_rfl) (Nat.le_of_ble_eq_true rfl) rfl ?_
  have h1 := (lay_walk [] p (by simp) hp).args (.cons (.nils .leaf) (.cons (.refl _) .nil))
  rw [List.nil_append] at h1
  have h2 := diskWrite_walk f l (frameOf p) (by rw [frameOf_len]; omega)
  rw [frameOf_len] at h2
  by_cases hc : f.length + l.length + (p.length + 8) ≤ 4194304
  · rw [if_pos hc] at h2 ⊢
    refine NCall.call (h1) rfl rfl ?_
    refine ND.yes (by omega) ?_
    refine NCall.call (h2) rfl rfl ?_
    exact NRet.mk [] rfl ⟨.refl _, rfl⟩
  · rw [if_neg hc] at h2 ⊢
    refine NCall.call (h1) rfl rfl ?_
    refine ND.yes (by omega) ?_
    refine NCall.call (h2) rfl rfl ?_
    exact NRet.mk [] rfl ⟨.refl _, rfl⟩

theorem open_walk (f l : List UInt8) (h : f.length + l.length ≤ 2 ^ 38) : ACalls Try.prog Nm.journal_Open [diskA f l] [] (.tup [recs (scan (f ++ l)).1, diskA ((f ++ l).take (scan (f ++ l)).2) []]) [] := by
  refine ACalls_of tab (dr_snd tab mixed) Nm.journal_Open_h rfl (by kernel_rfl) (Nat.le_of_ble_eq_true rfl) rfl ?_
  have hlen : (f ++ l).length = f.length + l.length := List.length_append
  have h1 := diskAll_walk f l (by omega)
  have h2 := scan_walk (f ++ l) (by omega)
  have h3 := scan_le _ (f ++ l) (Nat.le_refl _)
  have h4 := cut_walk f l (scan (f ++ l)).2 (by omega)
  rw [if_neg (by omega), Int.toNat_natCast] at h4
  refine NCall.call (h1) rfl rfl ?_
  refine NCall.call (h2) rfl rfl ?_
  refine NCall.call (h4) rfl rfl ?_
  refine NP.mk (by kernel_rfl) ?_
  apply NDr.pure
  · exact ⟨rfl, rfl⟩
  apply NDr.rd [0]
  · intro fH TH
    exact ⟨rfl, rfl⟩
  apply NDr.pure
  · exact ⟨rfl, rfl⟩
  apply NDr.efw [1]
  · exact ⟨rfl, rfl⟩
  · repeat (first | exact trivial | refine ⟨by first | trivial | rfl, ?_⟩)
  refine NP.mk (by kernel_rfl) ?_
  exact NRet.mk [] rfl ⟨.refl _, rfl⟩
end Go.Bv
