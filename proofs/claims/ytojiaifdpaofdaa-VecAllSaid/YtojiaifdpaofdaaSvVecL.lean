/- Part of the lift: an abstract walk of the program's code, proved sound, and what it shows of this program. -/
import Derived.Test.YtojiaifdpaofdaaSvVec
namespace Go.Bv
set_option linter.unusedSimpArgs false
set_option linter.unusedVariables false
set_option maxHeartbeats 4000000
open Go Go.Proofs

theorem vecJoinLaw_walk (a0 b0 c0 : List Int) : ACalls Try.prog Nm.law07_VecJoin [ints a0, ints b0, ints c0] [] (.bool true) [] := by
  refine ACalls_of tab (dr_snd tab mixed) Nm.law07_VecJoin_h rfl (by kernel_rfl) (Nat.le_of_ble_eq_true rfl) rfl ?_
  refine NCall.call (vecAwake_walk) rfl rfl ?_
  refine NCall.call (few_walk a0) rfl rfl ?_
  refine NCall.call (few_walk b0) rfl rfl ?_
  refine NCall.call (few_walk c0) rfl rfl ?_
  have ha : (a0.take 100).length ≤ 100 := by simp; omega
  have hb : (b0.take 100).length ≤ 100 := by simp; omega
  have hc : (c0.take 100).length ≤ 100 := by simp; omega
  generalize a0.take 100 = a at *
  generalize b0.take 100 = b at *
  generalize c0.take 100 = c at *
  have hj := join_len a b
  have hm := meet_len a b
  have h1 := vecWithin_walk a (join a b) (by omega) (by omega)
  have h2 := vecWithin_walk b (join a b) (by omega) (by omega)
  have h3 := vecWithin_walk (meet a b) a (by omega) (by omega)
  have h4 := vecWithin_walk (meet a b) b (by omega) (by omega)
  have h5 := vecWithin_walk (join a b) c (by omega) (by omega)
  have h6 := vecWithin_walk a c (by omega) (by omega)
  have h7 := vecWithin_walk b c (by omega) (by omega)
  have h8 := vecWithin_walk c (meet a b) (by omega) (by omega)
  have h9 := vecWithin_walk c a (by omega) (by omega)
  have h10 := vecWithin_walk c b (by omega) (by omega)
  rw [show vwithin a (join a b) = true from (vwithin_iff _ _).2 fun i => by rw [vat_join]; omega] at h1
  rw [show vwithin b (join a b) = true from (vwithin_iff _ _).2 fun i => by rw [vat_join]; omega] at h2
  rw [show vwithin (meet a b) a = true from (vwithin_iff _ _).2 fun i => by rw [vat_meet]; omega] at h3
  rw [show vwithin (meet a b) b = true from (vwithin_iff _ _).2 fun i => by rw [vat_meet]; omega] at h4
  have e1 : vwithin (join a b) c = (vwithin a c && vwithin b c) := by
    rw [Bool.eq_iff_iff, Bool.and_eq_true, vwithin_iff, vwithin_iff, vwithin_iff]
    refine ⟨fun h => ⟨fun i => ?_, fun i => ?_⟩, fun h i => ?_⟩
    · have := h i; rw [vat_join] at this; omega
    · have := h i; rw [vat_join] at this; omega
    · have := h.1 i; have := h.2 i; rw [vat_join]; omega
  have e2 : vwithin c (meet a b) = (vwithin c a && vwithin c b) := by
    rw [Bool.eq_iff_iff, Bool.and_eq_true, vwithin_iff, vwithin_iff, vwithin_iff]
    refine ⟨fun h => ⟨fun i => ?_, fun i => ?_⟩, fun h i => ?_⟩
    · have := h i; rw [vat_meet] at this; omega
    · have := h i; rw [vat_meet] at this; omega
    · have := h.1 i; have := h.2 i; rw [vat_meet]; omega
  rw [e1] at h5
  rw [e2] at h8
  cases h6' : vwithin a c <;> rw [h6'] at h5 h6
  all_goals cases h7' : vwithin b c
  all_goals rw [h7'] at h5 h7
  all_goals cases h9' : vwithin c a
  all_goals rw [h9'] at h8 h9
  all_goals cases h10' : vwithin c b
  all_goals rw [h10'] at h8 h10
  · refine NCall.call (vecJoin_walk a b (by omega) (by omega)) rfl rfl ?_
    refine NCall.call (vecMeet_walk a b (by omega) (by omega)) rfl rfl ?_
    refine NCall.call (h1) rfl rfl ?_
    refine NCall.call (h2) rfl rfl ?_
    refine NCall.call (h3) rfl rfl ?_
    refine NCall.call (h4) rfl rfl ?_
    refine NCall.call (h5) rfl rfl ?_
    refine NCall.call (h6) rfl rfl ?_
    refine NCall.call (h8) rfl rfl ?_
    refine NCall.call (h9) rfl rfl ?_
    exact NRet.mk [] rfl ⟨.refl _, rfl⟩
  · refine NCall.call (vecJoin_walk a b (by omega) (by omega)) rfl rfl ?_
    refine NCall.call (vecMeet_walk a b (by omega) (by omega)) rfl rfl ?_
    refine NCall.call (h1) rfl rfl ?_
    refine NCall.call (h2) rfl rfl ?_
    refine NCall.call (h3) rfl rfl ?_
    refine NCall.call (h4) rfl rfl ?_
    refine NCall.call (h5) rfl rfl ?_
    refine NCall.call (h6) rfl rfl ?_
    refine NCall.call (h8) rfl rfl ?_
    refine NCall.call (h9) rfl rfl ?_
    exact NRet.mk [] rfl ⟨.refl _, rfl⟩
  · refine NCall.call (vecJoin_walk a b (by omega) (by omega)) rfl rfl ?_
    refine NCall.call (vecMeet_walk a b (by omega) (by omega)) rfl rfl ?_
    refine NCall.call (h1) rfl rfl ?_
    refine NCall.call (h2) rfl rfl ?_
    refine NCall.call (h3) rfl rfl ?_
    refine NCall.call (h4) rfl rfl ?_
    refine NCall.call (h5) rfl rfl ?_
    refine NCall.call (h6) rfl rfl ?_
    refine NCall.call (h8) rfl rfl ?_
    refine NCall.call (h9) rfl rfl ?_
    refine NCall.call (h10) rfl rfl ?_
    exact NRet.mk [] rfl ⟨.refl _, rfl⟩
  · refine NCall.call (vecJoin_walk a b (by omega) (by omega)) rfl rfl ?_
    refine NCall.call (vecMeet_walk a b (by omega) (by omega)) rfl rfl ?_
    refine NCall.call (h1) rfl rfl ?_
    refine NCall.call (h2) rfl rfl ?_
    refine NCall.call (h3) rfl rfl ?_
    refine NCall.call (h4) rfl rfl ?_
    refine NCall.call (h5) rfl rfl ?_
    refine NCall.call (h6) rfl rfl ?_
    refine NCall.call (h8) rfl rfl ?_
    refine NCall.call (h9) rfl rfl ?_
    refine NCall.call (h10) rfl rfl ?_
    exact NRet.mk [] rfl ⟨.refl _, rfl⟩
  · refine NCall.call (vecJoin_walk a b (by omega) (by omega)) rfl rfl ?_
    refine NCall.call (vecMeet_walk a b (by omega) (by omega)) rfl rfl ?_
    refine NCall.call (h1) rfl rfl ?_
    refine NCall.call (h2) rfl rfl ?_
    refine NCall.call (h3) rfl rfl ?_
    refine NCall.call (h4) rfl rfl ?_
    refine NCall.call (h5) rfl rfl ?_
    refine NCall.call (h6) rfl rfl ?_
    refine NCall.call (h8) rfl rfl ?_
    refine NCall.call (h9) rfl rfl ?_
    exact NRet.mk [] rfl ⟨.refl _, rfl⟩
  · refine NCall.call (vecJoin_walk a b (by omega) (by omega)) rfl rfl ?_
    refine NCall.call (vecMeet_walk a b (by omega) (by omega)) rfl rfl ?_
    refine NCall.call (h1) rfl rfl ?_
    refine NCall.call (h2) rfl rfl ?_
    refine NCall.call (h3) rfl rfl ?_
    refine NCall.call (h4) rfl rfl ?_
    refine NCall.call (h5) rfl rfl ?_
    refine NCall.call (h6) rfl rfl ?_
    refine NCall.call (h8) rfl rfl ?_
    refine NCall.call (h9) rfl rfl ?_
    exact NRet.mk [] rfl ⟨.refl _, rfl⟩
  · refine NCall.call (vecJoin_walk a b (by omega) (by omega)) rfl rfl ?_
    refine NCall.call (vecMeet_walk a b (by omega) (by omega)) rfl rfl ?_
    refine NCall.call (h1) rfl rfl ?_
    refine NCall.call (h2) rfl rfl ?_
    refine NCall.call (h3) rfl rfl ?_
    refine NCall.call (h4) rfl rfl ?_
    refine NCall.call (h5) rfl rfl ?_
    refine NCall.call (h6) rfl rfl ?_
    refine NCall.call (h8) rfl rfl ?_
    refine NCall.call (h9) rfl rfl ?_
    refine NCall.call (h10) rfl rfl ?_
    exact NRet.mk [] rfl ⟨.refl _, rfl⟩
  · refine NCall.call (vecJoin_walk a b (by omega) (by omega)) rfl rfl ?_
    refine NCall.call (vecMeet_walk a b (by omega) (by omega)) rfl rfl ?_
    refine NCall.call (h1) rfl rfl ?_
    refine NCall.call (h2) rfl rfl ?_
    refine NCall.call (h3) rfl rfl ?_
    refine NCall.call (h4) rfl rfl ?_
    refine NCall.call (h5) rfl rfl ?_
    refine NCall.call (h6) rfl rfl ?_
    refine NCall.call (h8) rfl rfl ?_
    refine NCall.call (h9) rfl rfl ?_
    refine NCall.call (h10) rfl rfl ?_
    exact NRet.mk [] rfl ⟨.refl _, rfl⟩
  · refine NCall.call (vecJoin_walk a b (by omega) (by omega)) rfl rfl ?_
    refine NCall.call (vecMeet_walk a b (by omega) (by omega)) rfl rfl ?_
    refine NCall.call (h1) rfl rfl ?_
    refine NCall.call (h2) rfl rfl ?_
    refine NCall.call (h3) rfl rfl ?_
    refine NCall.call (h4) rfl rfl ?_
    refine NCall.call (h5) rfl rfl ?_
    refine NCall.call (h6) rfl rfl ?_
    refine NCall.call (h7) rfl rfl ?_
    refine NCall.call (h8) rfl rfl ?_
    refine NCall.call (h9) rfl rfl ?_
    exact NRet.mk [] rfl ⟨.refl _, rfl⟩
  · refine NCall.call (vecJoin_walk a b (by omega) (by omega)) rfl rfl ?_
    refine NCall.call (vecMeet_walk a b (by omega) (by omega)) rfl rfl ?_
    refine NCall.call (h1) rfl rfl ?_
    refine NCall.call (h2) rfl rfl ?_
    refine NCall.call (h3) rfl rfl ?_
    refine NCall.call (h4) rfl rfl ?_
    refine NCall.call (h5) rfl rfl ?_
    refine NCall.call (h6) rfl rfl ?_
    refine NCall.call (h7) rfl rfl ?_
    refine NCall.call (h8) rfl rfl ?_
    refine NCall.call (h9) rfl rfl ?_
    exact NRet.mk [] rfl ⟨.refl _, rfl⟩
  · refine NCall.call (vecJoin_walk a b (by omega) (by omega)) rfl rfl ?_
    refine NCall.call (vecMeet_walk a b (by omega) (by omega)) rfl rfl ?_
    refine NCall.call (h1) rfl rfl ?_
    refine NCall.call (h2) rfl rfl ?_
    refine NCall.call (h3) rfl rfl ?_
    refine NCall.call (h4) rfl rfl ?_
    refine NCall.call (h5) rfl rfl ?_
    refine NCall.call (h6) rfl rfl ?_
    refine NCall.call (h7) rfl rfl ?_
    refine NCall.call (h8) rfl rfl ?_
    refine NCall.call (h9) rfl rfl ?_
    refine NCall.call (h10) rfl rfl ?_
    exact NRet.mk [] rfl ⟨.refl _, rfl⟩
  · refine NCall.call (vecJoin_walk a b (by omega) (by omega)) rfl rfl ?_
    refine NCall.call (vecMeet_walk a b (by omega) (by omega)) rfl rfl ?_
    refine NCall.call (h1) rfl rfl ?_
    refine NCall.call (h2) rfl rfl ?_
    refine NCall.call (h3) rfl rfl ?_
    refine NCall.call (h4) rfl rfl ?_
    refine NCall.call (h5) rfl rfl ?_
    refine NCall.call (h6) rfl rfl ?_
    refine NCall.call (h7) rfl rfl ?_
    refine NCall.call (h8) rfl rfl ?_
    refine NCall.call (h9) rfl rfl ?_
    refine NCall.call (h10) rfl rfl ?_
    exact NRet.mk [] rfl ⟨.refl _, rfl⟩
  · refine NCall.call (vecJoin_walk a b (by omega) (by omega)) rfl rfl ?_
    refine NCall.call (vecMeet_walk a b (by omega) (by omega)) rfl rfl ?_
    refine NCall.call (h1) rfl rfl ?_
    refine NCall.call (h2) rfl rfl ?_
    refine NCall.call (h3) rfl rfl ?_
    refine NCall.call (h4) rfl rfl ?_
    refine NCall.call (h5) rfl rfl ?_
    refine NCall.call (h6) rfl rfl ?_
    refine NCall.call (h7) rfl rfl ?_
    refine NCall.call (h8) rfl rfl ?_
    refine NCall.call (h9) rfl rfl ?_
    exact NRet.mk [] rfl ⟨.refl _, rfl⟩
  · refine NCall.call (vecJoin_walk a b (by omega) (by omega)) rfl rfl ?_
    refine NCall.call (vecMeet_walk a b (by omega) (by omega)) rfl rfl ?_
    refine NCall.call (h1) rfl rfl ?_
    refine NCall.call (h2) rfl rfl ?_
    refine NCall.call (h3) rfl rfl ?_
    refine NCall.call (h4) rfl rfl ?_
    refine NCall.call (h5) rfl rfl ?_
    refine NCall.call (h6) rfl rfl ?_
    refine NCall.call (h7) rfl rfl ?_
    refine NCall.call (h8) rfl rfl ?_
    refine NCall.call (h9) rfl rfl ?_
    exact NRet.mk [] rfl ⟨.refl _, rfl⟩
  · refine NCall.call (vecJoin_walk a b (by omega) (by omega)) rfl rfl ?_
    refine NCall.call (vecMeet_walk a b (by omega) (by omega)) rfl rfl ?_
    refine NCall.call (h1) rfl rfl ?_
    refine NCall.call (h2) rfl rfl ?_
    refine NCall.call (h3) rfl rfl ?_
    refine NCall.call (h4) rfl rfl ?_
    refine NCall.call (h5) rfl rfl ?_
    refine NCall.call (h6) rfl rfl ?_
    refine NCall.call (h7) rfl rfl ?_
    refine NCall.call (h8) rfl rfl ?_
    refine NCall.call (h9) rfl rfl ?_
    refine NCall.call (h10) rfl rfl ?_
    exact NRet.mk [] rfl ⟨.refl _, rfl⟩
  · refine NCall.call (vecJoin_walk a b (by omega) (by omega)) rfl rfl ?_
    refine NCall.call (vecMeet_walk a b (by omega) (by omega)) rfl rfl ?_
    refine NCall.call (h1) rfl rfl ?_
    refine NCall.call (h2) rfl rfl ?_
    refine NCall.call (h3) rfl rfl ?_
    refine NCall.call (h4) rfl rfl ?_
    refine NCall.call (h5) rfl rfl ?_
    refine NCall.call (h6) rfl rfl ?_
    refine NCall.call (h7) rfl rfl ?_
    refine NCall.call (h8) rfl rfl ?_
    refine NCall.call (h9) rfl rfl ?_
    refine NCall.call (h10) rfl rfl ?_
    exact NRet.mk [] rfl ⟨.refl _, rfl⟩

theorem vecWithLaw_walk (v0 : List Int) (node n other : Int) : ACalls Try.prog Nm.law07_VecWith [ints v0, i64 node, i64 n, i64 other] [] (.bool true) [] := by
  refine ACalls_of tab (dr_snd tab mixed) Nm.law07_VecWith_h rfl (by kernel_rfl) (Nat.le_of_ble_eq_true rfl) rfl ?_
  refine NCall.call (vecAwake_walk) rfl rfl ?_
  refine NCall.call (few_walk v0) rfl rfl ?_
  have hv : (v0.take 100).length ≤ 100 := by simp; omega
  generalize v0.take 100 = v at *
  by_cases h : 0 ≤ node ∧ node < 8 ∧ 0 ≤ n ∧ n ≤ 1073741824
  · have h1 := vecWith_walk v node n (by omega) h
    have hl : (vset v node.toNat n).length ≤ 200 := by simp [vset]; omega
    have hl2 := trim_len (vset v node.toNat n)
    have h2 := vecAt_walk (trim (vset v node.toNat n)) node (by omega)
    have h3 := vecAt_walk (trim (vset v node.toNat n)) other (by omega)
    have h4 := vecAt_walk v other (by omega)
    have h5 := vecTrim_walk (trim (vset v node.toNat n)) (by omega)
    have h6 := equal7_walk (trim (vset v node.toNat n)) (trim (vset v node.toNat n)) (by omega)
    rw [trim_trim] at h5
    rw [decide_eq_true rfl] at h6
    have e1 : vatI (trim (vset v node.toNat n)) node = n := by
      unfold vatI; rw [if_neg (by omega), vat_trim, vat_vset _ _ _ h.2.2.1, if_pos rfl]
    have e2 : other ≠ node → vatI (trim (vset v node.toNat n)) other = vatI v other := fun ho => by
      unfold vatI
      split
      · rfl
      · rw [vat_trim, vat_vset _ _ _ h.2.2.1, if_neg (by omega)]
    rw [e1] at h2
    by_cases ho : other = node
    · refine NCall.call (h1) rfl rfl ?_
      refine NCall.call (h2) rfl rfl ?_
      refine NB.dec (fun hk1 => ?_) (fun hk1 => ?_)
      rotate_left
      · exact absurd (by omega) hk1
      refine NB.dec (fun hk2 => ?_) (fun hk2 => ?_)
      rotate_left
      · exact absurd (by omega) hk2
      refine NCall.call (h5) rfl rfl ?_
      refine NCall.call (h6) rfl rfl ?_
      exact NRet.mk [] rfl ⟨.refl _, rfl⟩
    · rw [e2 ho] at h3
      refine NCall.call (h1) rfl rfl ?_
      refine NCall.call (h2) rfl rfl ?_
      refine NB.dec (fun hk1 => ?_) (fun hk1 => ?_)
      rotate_left
      · exact absurd (by omega) hk1
      refine NB.dec (fun hk2 => ?_) (fun hk2 => ?_)
      · exact absurd hk2 (by omega)
      refine NCall.call (h3) rfl rfl ?_
      refine NCall.call (h4) rfl rfl ?_
      refine NB.dec (fun hk3 => ?_) (fun hk3 => ?_)
      rotate_left
      · exact absurd (by omega) hk3
      refine NCall.call (h5) rfl rfl ?_
      refine NCall.call (h6) rfl rfl ?_
      exact NRet.mk [] rfl ⟨.refl _, rfl⟩
  · refine NCall.call (vecWith_bad v node n h) rfl rfl ?_
    refine NB.dec (fun hk1 => ?_) (fun hk1 => ?_)
    · exact NRet.mk [] rfl ⟨.refl _, rfl⟩
    refine NB.dec (fun hk2 => ?_) (fun hk2 => ?_)
    · exact NRet.mk [] rfl ⟨.refl _, rfl⟩
    refine NB.dec (fun hk3 => ?_) (fun hk3 => ?_)
    · exact NRet.mk [] rfl ⟨.refl _, rfl⟩
    refine NB.dec (fun hk4 => ?_) (fun hk4 => ?_)
    rotate_left
    · exact absurd (by omega) hk4
    exact NRet.mk [] rfl ⟨.refl _, rfl⟩

theorem vecLaws_walk (a0 b0 c0 : List Int) : ACalls Try.prog Nm.law07_VecLaws [ints a0, ints b0, ints c0] [] (.bool true) [] := by
  refine ACalls_of tab (dr_snd tab mixed) Nm.law07_VecLaws_h rfl (by kernel_rfl) (Nat.le_of_ble_eq_true rfl) rfl ?_
  refine NCall.call (vecAwake_walk) rfl rfl ?_
  refine NCall.call (few_walk a0) rfl rfl ?_
  refine NCall.call (few_walk b0) rfl rfl ?_
  refine NCall.call (few_walk c0) rfl rfl ?_
  have ha : (a0.take 100).length ≤ 100 := by simp; omega
  have hb : (b0.take 100).length ≤ 100 := by simp; omega
  have hc : (c0.take 100).length ≤ 100 := by simp; omega
  generalize a0.take 100 = a at *
  generalize b0.take 100 = b at *
  generalize c0.take 100 = c at *
  have e1 : join b a = join a b := by
    unfold join
    exact trim_ext _ _ fun i => by rw [vat_both (by decide) (by intro x y _ _; omega), vat_both (by decide) (by intro x y _ _; omega)]; omega
  have e2 : join a (join b c) = join (join a b) c := by
    rw [vjoin_ext (a := a) (b := join b c) (c := join (join a b) c) fun i => by rw [vat_join, vat_join, vat_join]; omega]
    exact trim_trim _
  have e3 : join a a = trim a := vjoin_ext fun i => by omega
  have e4 : meet a (join a b) = trim a := vmeet_ext fun i => by rw [vat_join]; omega
  have e5 : vwithin a b = decide (join a b = trim b) := by
    rw [Bool.eq_iff_iff, vwithin_iff, decide_eq_true_eq]
    refine ⟨fun h => vjoin_ext fun i => by have := h i; omega, fun h i => ?_⟩
    have := vat_join a b i
    rw [h, vat_trim] at this; omega
  have l1 := join_len a b
  have l2 := join_len b c
  have l3 := join_len (join a b) c
  have l4 := trim_len a
  have hj1 := vecJoin_walk a b (by omega) (by omega)
  have hj2 := vecJoin_walk b a (by omega) (by omega)
  have hj3 := vecJoin_walk (join a b) c (by omega) (by omega)
  have hj4 := vecJoin_walk b c (by omega) (by omega)
  have hj5 := vecJoin_walk a (join b c) (by omega) (by omega)
  have hj6 := vecJoin_walk a a (by omega) (by omega)
  have hm := vecMeet_walk a (join a b) (by omega) (by omega)
  have hta := vecTrim_walk a (by omega)
  have htb := vecTrim_walk b (by omega)
  have hw := vecWithin_walk a b (by omega) (by omega)
  rw [e1] at hj2
  rw [e2] at hj5
  rw [e3] at hj6
  rw [e4] at hm
  rw [e5] at hw
  have q1 := equal7_walk (join a b) (join a b) (by omega)
  have q2 := equal7_walk (join (join a b) c) (join (join a b) c) (by omega)
  have q3 := equal7_walk (trim a) (trim a) (by omega)
  have q4 := equal7_walk (join a b) (trim b) (by omega)
  rw [decide_eq_true rfl] at q1 q2 q3
  refine NCall.call (hj1) rfl rfl ?_
  refine NCall.call (hj2) rfl rfl ?_
  refine NCall.call (q1) rfl rfl ?_
  refine NCall.call (hj1) rfl rfl ?_
  refine NCall.call (hj3) rfl rfl ?_
  refine NCall.call (hj4) rfl rfl ?_
  refine NCall.call (hj5) rfl rfl ?_
  refine NCall.call (q2) rfl rfl ?_
  refine NCall.call (hj6) rfl rfl ?_
  refine NCall.call (hta) rfl rfl ?_
  refine NCall.call (q3) rfl rfl ?_
  refine NCall.call (hj1) rfl rfl ?_
  refine NCall.call (hm) rfl rfl ?_
  refine NCall.call (hta) rfl rfl ?_
  refine NCall.call (q3) rfl rfl ?_
  refine NCall.call (hw) rfl rfl ?_
  refine NCall.call (hj1) rfl rfl ?_
  refine NCall.call (htb) rfl rfl ?_
  refine NCall.call (q4) rfl rfl ?_
  refine NB.mk (fun hk1 => ?_) (fun hk1 => ?_)
  rotate_left
  · exact absurd hk1 (by simp)
  exact NRet.mk [] rfl ⟨.refl _, rfl⟩
end Go.Bv
