/- Part of the lift: an abstract walk of the program's code, proved sound, and what it shows of this program. -/
import Derived.Test.YtegjfgodmenagaaSvJournalA
namespace Go.Bv
set_option linter.unusedSimpArgs false
set_option linter.unusedVariables false
set_option maxHeartbeats 4000000
open Go Go.Proofs

theorem oneOf_frame {l : List UInt8} {n : Nat} (h : oneOf l = some n) : l.take n = frameOf ((l.take n).drop 8) ∧ ((l.take n).drop 8).length ≤ 1048576 ∧ n = 8 + ((l.take n).drop 8).length := by
  obtain ⟨hlen, h8, hn⟩ := oneOf_len h
  have hl8 : ¬ l.length < 8 := by omega
  have hb : ¬ (1048576 < num4 l ∨ l.length - 8 < num4 l) := fun hb => by
    unfold oneOf at h
    rw [if_neg hl8, if_pos hb] at h
    cases h
  have hnn : n = 8 + num4 l := by
    rw [← hlen]; unfold oneLen; rw [if_neg hl8, if_neg hb]
  have ho := oneOf_iff (l := l) (by omega) (by omega) (by omega)
  rw [ho] at h
  split at h
  · rename_i hf
    have er : (l.take n).drop 8 = (l.drop 8).take (num4 l) := by rw [hnn, List.drop_take, Nat.add_sub_cancel_left]
    have hpl : ((l.drop 8).take (num4 l)).length = num4 l := by rw [List.length_take, List.length_drop]; omega
    exact ⟨by rw [er, hf, ← hnn], by rw [er, hpl]; omega, by rw [er, hpl]; exact hnn⟩
  · cases h

/-- What is scanned goes on behind what was scanned. -/
theorem scan_on : ∀ (n : Nat) (l : List UInt8), l.length ≤ n → ∀ (r : List UInt8), scan (l.take (scan l).2 ++ r) = ((scan l).1 ++ (scan r).1, (scan l).2 + (scan r).2)
  | n, l, h, r => by
    cases ho : oneOf l with
    | none => rw [scan_none ho]; simp
    | some k =>
      obtain ⟨_, h8, hk⟩ := oneOf_len ho
      obtain ⟨h1, h2, h3⟩ := oneOf_frame ho
      cases n with
      | zero => omega
      | succ n =>
        have ih := scan_on n (l.drop k) (by rw [List.length_drop]; omega) r
        rw [scan_some ho]
        show scan (l.take (k + (scan (l.drop k)).2) ++ r) = _
        rw [List.take_add, List.append_assoc]
        generalize (l.take k).drop 8 = p at *
        rw [h1, scan_frame _ _ h2, ih, h3]
        simp only [List.cons_append, Nat.add_assoc]

theorem journalMore_walk (f0 l0 p0 : List UInt8) (keep : Int) (hf : f0.length ≤ reachBytes) (hl : l0.length ≤ reachBytes) (hp : p0.length ≤ reachBytes) : ACalls Try.prog Nm.law06_JournalMore [diskA f0 l0, bytes p0, i64 keep] [] (.bool true) [] := by
  have hf := reach_lt hf
  have hl := reach_lt hl
  have hp := reach_lt hp
  refine ACalls_of tab (dr_snd tab mixed) Nm.law06_JournalMore_h rfl (by kernel_rfl) (Nat.le_of_ble_eq_true rfl) rfl ?_
  have e1 : (f0.map u8).take (Int.toNat (min ((f0.map u8).length : Int) 3000)) = (f0.take 3000).map u8 := cut_map u8 f0 3000
  have e2 : (l0.map u8).take (Int.toNat (min ((l0.map u8).length : Int) 3000)) = (l0.take 3000).map u8 := cut_map u8 l0 3000
  have e3 : (p0.map u8).take (Int.toNat (min ((p0.map u8).length : Int) 3000)) = (p0.take 3000).map u8 := cut_map u8 p0 3000
  refine NCall.call (journalAwake_walk) rfl rfl ?_
  refine NP.mk (by kernel_rfl) ?_
  apply NDr.rd [0]
  · intro fH TH
    exact ⟨rfl, rfl⟩
  apply NDr.rd [0]
  · intro fH TH
    exact ⟨rfl, rfl⟩
  apply NDr.rd [0]
  · intro fH TH
    exact ⟨rfl, rfl⟩
  apply NDr.rd [0]
  · intro fH TH
    exact ⟨rfl, rfl⟩
  apply NDr.pure
  · exact ⟨rfl, rfl⟩
  apply NDr.pure
  · exact ⟨rfl, rfl⟩
  apply NDr.pure
  · refine NP.mk (by omega) ?_
    exact ⟨rfl, rfl⟩
  apply NDr.rd [0]
  · intro fH TH
    exact ⟨rfl, rfl⟩
  apply NDr.rd [0]
  · intro fH TH
    exact ⟨rfl, rfl⟩
  apply NDr.rd [0]
  · intro fH TH
    exact ⟨rfl, rfl⟩
  apply NDr.rd [0]
  · intro fH TH
    exact ⟨rfl, rfl⟩
  apply NDr.pure
  · exact ⟨rfl, rfl⟩
  apply NDr.pure
  · exact ⟨rfl, rfl⟩
  apply NDr.pure
  · refine NP.mk (by omega) ?_
    exact ⟨rfl, rfl⟩
  apply NDr.pure
  · exact ⟨rfl, rfl⟩
  apply NDr.efw [0]
  · exact ⟨rfl, rfl⟩
  · repeat (first | exact trivial | refine ⟨by first | trivial | rfl, ?_⟩)
  refine NP.mk (by kernel_rfl) ?_
  refine NP.mk (by omega) ?_
  rw [e1, e2, e3]
  have hf3 : (f0.take 3000).length ≤ 3000 := by simp; omega
  have hl3 : (l0.take 3000).length ≤ 3000 := by simp; omega
  have hp3 : (p0.take 3000).length ≤ 3000 := by simp; omega
  clear e1 e2 e3 hf hl hp
  generalize f0.take 3000 = f at *
  generalize l0.take 3000 = l at *
  generalize p0.take 3000 = p at *
  have hlen : (f ++ l).length = f.length + l.length := List.length_append
  have h6 := open_walk f l (by omega)
  have hon := scan_on _ (f ++ l) (Nat.le_refl _) (frameOf p)
  have hle := scan_le _ (f ++ l) (Nat.le_refl _)
  have hsp : scan (frameOf p) = ([p], 8 + p.length) := by
    have := scan_frame p [] (by omega)
    rw [List.append_nil] at this
    rw [this, scan_short (l := []) (by decide)]; rfl
  rw [hsp] at hon
  obtain ⟨b1, b2⟩ := scan_bound _ (f ++ l) (Nat.le_refl _)
  have htl : ((f ++ l).take (scan (f ++ l)).2).length ≤ 6000 := by rw [List.length_take]; omega
  generalize (f ++ l).take (scan (f ++ l)).2 = t at *
  generalize hk : (scan (f ++ l)).2 = k at *
  generalize (scan (f ++ l)).1 = q at *
  have h1 := append_walk t [] p (by simp; omega) (by omega)
  rw [if_pos (by simp; omega), List.nil_append] at h1
  have h2 := diskSync_walk t (frameOf p) (by rw [frameOf_len]; omega)
  have h3 := diskCrash_walk (t ++ frameOf p) [] keep (by simp [frameOf_len]; omega)
  rw [List.take_nil, List.append_nil] at h3
  have h4 := open_walk (t ++ frameOf p) [] (by simp [frameOf_len]; omega)
  rw [List.append_nil, hon] at h4
  have h5 := sameL_walk (q ++ [p]) (q ++ [p]) (by simp; omega) (fun x hx => by
    rcases List.mem_append.1 hx with hx | hx
    · have := b2 x hx; omega
    · rw [List.mem_singleton.1 hx]; omega)
  rw [decide_eq_true rfl] at h5
  have h4' : ACalls Try.prog Nm.journal_Open [diskA (t ++ frameOf p) []] [] (.tup [recs (q ++ [p]), diskA ((t ++ frameOf p).take (k + (8 + p.length))) []]) [] := h4
  have hpre : (q ++ [p]).map bytes = ((q.map bytes ++ [AV.list .leaf (p.map u8)]).drop 0).take (q.map bytes ++ [AV.list .leaf (p.map u8)]).length := by
    rw [List.drop_zero, List.take_length, List.map_append]; rfl
  refine NCall.call (h6) rfl rfl ?_
  refine NCall.call (h1) rfl rfl ?_
  refine NCall.call (h2) rfl rfl ?_
  refine NCall.call (h3) rfl rfl ?_
  refine NCall.call (h4') rfl rfl ?_
  refine ND.yes (by omega) ?_
  refine NFz.own ?_
  refine NApp.endA rfl (by simp; omega) ?_
  refine NFz.own ?_
  refine NApp.endA rfl (by simp; omega) ?_
  refine NCall.lend (h5) (.cons (.same _) (.cons (.own trivial rfl (by simp) (by simp) (by assumption)) .nil)) rfl rfl ?_
  exact NRet.mk [] rfl ⟨.refl _, rfl⟩
end Go.Bv
