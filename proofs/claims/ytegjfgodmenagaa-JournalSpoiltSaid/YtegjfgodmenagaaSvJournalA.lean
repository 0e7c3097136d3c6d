/- Part of the lift: an abstract walk of the program's code, proved sound, and what it shows of this program. -/
import Derived.Test.YtegjfgodmenagaaSvJournal
namespace Go.Bv
set_option linter.unusedSimpArgs false
set_option linter.unusedVariables false
set_option maxHeartbeats 4000000
open Go Go.Proofs

theorem scan_frame (p r : List UInt8) (hp : p.length ≤ 1048576) : scan (frameOf p ++ r) = (p :: (scan r).1, 8 + p.length + (scan r).2) := by
  have hl := frameOf_len p
  have hn : num4 (frameOf p ++ r) = p.length := by
    unfold frameOf
    rw [List.append_assoc, List.append_assoc]
    exact num4_four _ (by omega) _
  have h8 : ((frameOf p ++ r).drop 8).take p.length = p := by
    unfold frameOf
    rw [List.append_assoc, List.append_assoc, ← List.append_assoc (four p.length), List.drop_left' (by simp [four_len]), List.take_left' rfl]
  have ht : (frameOf p ++ r).take (8 + p.length) = frameOf p := List.take_left' (by omega)
  have ho := oneOf_iff (l := frameOf p ++ r) (by simp; omega) (by rw [hn]; omega) (by rw [hn]; simp; omega)
  rw [hn, h8, ht, if_pos rfl] at ho
  rw [scan_some ho, ht, List.drop_left' (by omega)]
  have h9 : (frameOf p).drop 8 = p := by
    unfold frameOf
    rw [List.drop_left' (by simp [four_len])]
  rw [h9]
theorem scan_bound : ∀ (n : Nat) (l : List UInt8), l.length ≤ n → (scan l).1.length ≤ l.length ∧ ∀ x ∈ (scan l).1, x.length ≤ l.length
  | 0, l, h => by
    cases ho : oneOf l with
    | none => rw [scan_none ho]; exact ⟨Nat.zero_le _, fun x hx => by cases hx⟩
    | some k => have := oneOf_len ho; omega
  | n + 1, l, h => by
    cases ho : oneOf l with
    | none => rw [scan_none ho]; exact ⟨Nat.zero_le _, fun x hx => by cases hx⟩
    | some k =>
      obtain ⟨_, h8, hk⟩ := oneOf_len ho
      rw [scan_some ho]
      obtain ⟨h1, h2⟩ := scan_bound n (l.drop k) (by simp; omega)
      simp only [List.length_drop] at h1 h2
      refine ⟨by simp only [List.length_cons]; omega, fun x hx => ?_⟩
      rcases List.mem_cons.1 hx with rfl | hx
      · simp; omega
      · have := h2 x hx; omega
theorem scan_short {l : List UInt8} (h : l.length < 8) : scan l = ([], 0) := scan_none (if_pos h)

theorem journalAwake_walk : ACalls Try.prog Nm.law06_awake [] [] (.bool true) [] := by
  refine ACalls_of tab (dr_snd tab mixed) Nm.law06_awake_h rfl (by kernel_rfl) (Nat.le_of_ble_eq_true rfl) rfl ?_
  have h1 := append_walk [] [] [97] (by decide) (by decide)
  rw [if_pos (by decide), List.nil_append] at h1
  have h1 := h1.args (args := [.agg [.nils, .nils], bytes [97]]) (.cons (.agg (.cons (.nils .leaf) (.cons (.nils .leaf) .nil))) (.cons (.refl _) .nil))
  have h2 := diskSync_walk [] (frameOf [97]) (by rw [frameOf_len]; decide)
  have h3 := append_walk (frameOf [97]) [] [98] (by rw [frameOf_len]; decide) (by decide)
  rw [List.nil_append] at h2
  rw [frameOf_len, if_pos (by decide), List.nil_append] at h3
  have h4 := diskCrash_walk (frameOf [97]) (frameOf [98]) 5 (by rw [frameOf_len, frameOf_len]; decide)
  have h5 := open_walk (frameOf [97] ++ (frameOf [98]).take (Int.toNat 5)) [] (by simp [frameOf_len])
  have e : scan (frameOf [97] ++ (frameOf [98]).take (Int.toNat 5)) = ([[97]], 9) := by
    rw [scan_frame _ _ (by decide), scan_short (by rw [List.length_take]; exact Nat.lt_of_le_of_lt (Nat.min_le_left _ _) (by decide))]; rfl
  rw [List.append_nil, e] at h5
  refine NMk.own ?_
  refine NCall.roA [0] ?_
  refine NCall.call (h1) rfl rfl ?_
  refine NCall.call (h2) rfl rfl ?_
  refine NMk.own ?_
  refine NCall.roA [2] ?_
  refine NCall.call (h3) rfl rfl ?_
  refine NCall.call (h4) rfl rfl ?_
  refine NCall.call (h5) rfl rfl ?_
  refine ND.yes (by omega) ?_
  refine ND.yes (by omega) ?_
  refine ND.yes (by rfl) ?_
  refine NP.mk (by omega) ?_
  refine NG.mapN (by (simp only [List.length_map, List.length_append, List.length_replicate, List.length_cons, List.length_nil, List.length_take, List.length_drop]; omega)) ?_
  refine NP.mk (by exact bytes_isByte) ?_
  refine ND.yes (by rfl) ?_
  exact NRet.mk [] rfl ⟨.refl _, rfl⟩

theorem journalAll_walk (f0 l0 p0 : List UInt8) (hf : f0.length ≤ reachBytes) (hl : l0.length ≤ reachBytes) (hp : p0.length ≤ reachBytes) : ACalls Try.prog Nm.law06_JournalAll [diskA f0 l0, bytes p0] [] (.bool true) [] := by
  have hf := reach_lt hf
  have hl := reach_lt hl
  have hp := reach_lt hp
  refine ACalls_of tab (dr_snd tab mixed) Nm.law06_JournalAll_h rfl (by kernel_rfl) (Nat.le_of_ble_eq_true rfl) rfl ?_
  have e1 : (f0.map u8).take (Int.toNat (min ((f0.map u8).length : Int) 3000)) = (f0.take 3000).map u8 := cut_map u8 f0 3000
  have e2 : (l0.map u8).take (Int.toNat (min ((l0.map u8).length : Int) 3000)) = (l0.take 3000).map u8 := cut_map u8 l0 3000
  have e3 : (p0.map u8).take (Int.toNat (min ((p0.map u8).length : Int) 3000)) = (p0.take 3000).map u8 := cut_map u8 p0 3000
  refine NCall.call (journalAwake_walk) rfl rfl ?_
  refine NP.mk (by kernel_rfl) ?_
  apply NDr.rd [0]
  · intro fH TH
    exact ⟨rfl, rfl⟩
  apply NDr.rd [0]
  · intro fH TH
    exact ⟨rfl, rfl⟩
  apply NDr.rd [0]
  · intro fH TH
    exact ⟨rfl, rfl⟩
  apply NDr.rd [0]
  · intro fH TH
    exact ⟨rfl, rfl⟩
  apply NDr.pure
  · exact ⟨rfl, rfl⟩
  apply NDr.pure
  · exact ⟨rfl, rfl⟩
  apply NDr.pure
  · refine NP.mk (by omega) ?_
    exact ⟨rfl, rfl⟩
  apply NDr.rd [0]
  · intro fH TH
    exact ⟨rfl, rfl⟩
  apply NDr.rd [0]
  · intro fH TH
    exact ⟨rfl, rfl⟩
  apply NDr.rd [0]
  · intro fH TH
    exact ⟨rfl, rfl⟩
  apply NDr.rd [0]
  · intro fH TH
    exact ⟨rfl, rfl⟩
  apply NDr.pure
  · exact ⟨rfl, rfl⟩
  apply NDr.pure
  · exact ⟨rfl, rfl⟩
  apply NDr.pure
  · refine NP.mk (by omega) ?_
    exact ⟨rfl, rfl⟩
  apply NDr.pure
  · exact ⟨rfl, rfl⟩
  apply NDr.efw [0]
  · exact ⟨rfl, rfl⟩
  · repeat (first | exact trivial | refine ⟨by first | trivial | rfl, ?_⟩)
  refine NP.mk (by kernel_rfl) ?_
  refine NP.mk (by omega) ?_
  rw [e1, e2, e3]
  have hf3 : (f0.take 3000).length ≤ 3000 := by simp; omega
  have hl3 : (l0.take 3000).length ≤ 3000 := by simp; omega
  have hp3 : (p0.take 3000).length ≤ 3000 := by simp; omega
  clear e1 e2 e3 hf hl hp
  generalize f0.take 3000 = f at *
  generalize l0.take 3000 = l at *
  generalize p0.take 3000 = p at *
  have h1 := copy5_list f l (by omega)
  have h2 := append_walk f l p (by omega) (by omega)
  have h3 := refFrame_walk p (by omega)
  have h4 := write5_walk f l (frameOf p) (by rw [frameOf_len]; omega)
  rw [if_pos (by omega)] at h2
  rw [if_pos (by rw [frameOf_len]; omega)] at h4
  have h5 := same5_walk f (l ++ frameOf p) f (l ++ frameOf p) (by simp [frameOf_len]; omega)
  have h6 := open_walk f l (by omega)
  have hlen : (f ++ l).length = f.length + l.length := List.length_append
  have h7 := copyB_walk f (by omega)
  have h8 := refScan_walk (f ++ l) (by omega)
  have hle := scan_le _ (f ++ l) (Nat.le_refl _)
  have h9 := first5_walk f l (scan (f ++ l)).2 (by omega) (by omega)
  have h10 := same5_walk ((f ++ l).take (scan (f ++ l)).2) [] ((f ++ l).take (scan (f ++ l)).2) [] (by simp; omega)
  have h11 := same5_walk f l f l (by omega)
  rw [decide_eq_true rfl, decide_eq_true rfl] at h5 h10 h11
  obtain ⟨b1, b2⟩ := scan_bound _ (f ++ l) (Nat.le_refl _)
  have h12 := sameL_walk (scan (f ++ l)).1 (scan (f ++ l)).1 (by omega) (fun x hx => by have := b2 x hx; omega)
  rw [decide_eq_true rfl] at h12
  refine NCall.call (h1) rfl rfl ?_
  refine NCall.call (h2) rfl rfl ?_
  refine NP.mk (by kernel_rfl) ?_
  apply NDr.rd [0]
  · intro fH TH
    exact ⟨rfl, rfl⟩
  apply NDr.pure
  · exact ⟨rfl, rfl⟩
  apply NDr.pure
  · refine NCall.call (h3) rfl rfl ?_
    exact ⟨rfl, rfl⟩
  apply NDr.pure
  · refine NCall.call (h4) rfl rfl ?_
    exact ⟨rfl, rfl⟩
  apply NDr.pure
  · exact ⟨rfl, rfl⟩
  apply NDr.pure
  · exact ⟨rfl, rfl⟩
  apply NDr.pure
  · exact ⟨rfl, rfl⟩
  apply NDr.efw []
  · exact ⟨rfl, rfl⟩
  · repeat (first | exact trivial | refine ⟨by first | trivial | rfl, ?_⟩)
  apply NDr.efw [3]
  · exact ⟨rfl, rfl⟩
  · repeat (first | exact trivial | refine ⟨by first | trivial | rfl, ?_⟩)
  apply NDr.pure
  · exact ⟨rfl, rfl⟩
  refine NP.mk (by kernel_rfl) ?_
  refine ND.yes (by omega) ?_
  refine NCall.call (h5) rfl rfl ?_
  refine NCall.call (h6) rfl rfl ?_
  refine NP.mk (by kernel_rfl) ?_
  apply NDr.rd [0]
  · intro fH TH
    exact ⟨rfl, rfl⟩
  apply NDr.rd [0]
  · intro fH TH
    exact ⟨rfl, rfl⟩
  apply NDr.efw []
  · refine NCall.atA (ACalls.frame (h7) rfl _) ?_
    exact ⟨rfl, rfl⟩
  · repeat (first | exact trivial | refine ⟨by first | trivial | rfl, ?_⟩)
  apply NDr.rd [0]
  · intro fH TH
    exact ⟨rfl, rfl⟩
  apply NDr.rd [0]
  · intro fH TH
    exact ⟨rfl, rfl⟩
  apply NDr.efw [5]
  · refine NFz.own ?_
    refine NApp.endA (by simp) (by simp; omega) ?_
    exact ⟨rfl, rfl⟩
  · repeat (first | exact trivial | refine ⟨by first | trivial | rfl, ?_⟩)
  apply NDr.efw [6]
  · rw [(mapApp _ _ _)]
    refine NCall.eq (by simp only [List.length_map] <;> exact rfl) ?_
    refine NCall.roA [6] ?_
    rw [(tlm _ _)]
    refine NCall.call (h8) rfl rfl ?_
    exact ⟨rfl, rfl⟩
  · repeat (first | exact trivial | refine ⟨by first | trivial | rfl, ?_⟩)
  apply NDr.pure
  · exact ⟨rfl, rfl⟩
  apply NDr.pure
  · exact ⟨rfl, rfl⟩
  apply NDr.pure
  · exact ⟨rfl, rfl⟩
  apply NDr.pure
  · exact ⟨rfl, rfl⟩
  apply NDr.pure
  · exact ⟨rfl, rfl⟩
  refine NP.mk (by kernel_rfl) ?_
  refine NP.mk (by kernel_rfl) ?_
  apply NDr.pure
  · exact ⟨rfl, rfl⟩
  apply NDr.pure
  · exact ⟨rfl, rfl⟩
  apply NDr.pure
  · refine NCall.call (h12) rfl rfl ?_
    exact ⟨rfl, rfl⟩
  apply NDr.pure
  · exact ⟨rfl, rfl⟩
  apply NDr.rd [4]
  · intro fH TH
    exact ⟨rfl, rfl⟩
  apply NDr.rd [0]
  · intro fH TH
    exact ⟨rfl, rfl⟩
  apply NDr.pure
  · exact ⟨rfl, rfl⟩
  apply NDr.pure
  · refine NCall.call (h9) rfl rfl ?_
    exact ⟨rfl, rfl⟩
  apply NDr.pure
  · refine NCall.call (h10) rfl rfl ?_
    exact ⟨rfl, rfl⟩
  apply NDr.pure
  · exact ⟨rfl, rfl⟩
  apply NDr.pure
  · exact ⟨rfl, rfl⟩
  apply NDr.rd [1]
  · intro fH TH
    exact ⟨rfl, rfl⟩
  apply NDr.rd [0]
  · intro fH TH
    exact ⟨rfl, rfl⟩
  apply NDr.pure
  · refine NCall.call (h11) rfl rfl ?_
    exact ⟨rfl, rfl⟩
  apply NDr.pure
  · exact ⟨rfl, rfl⟩
  apply NDr.pure
  · exact ⟨rfl, rfl⟩
  refine NP.mk (by kernel_rfl) ?_
  rw [(mapApp _ _ _)]
  exact NRet.mk [] rfl ⟨.refl _, rfl⟩
end Go.Bv
