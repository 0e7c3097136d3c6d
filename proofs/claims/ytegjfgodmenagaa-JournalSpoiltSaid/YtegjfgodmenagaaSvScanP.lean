/- Part of the lift: an abstract walk of the program's code, proved sound, and what it shows of this program. -/
import Derived.Test.YtegjfgodmenagaaSvJournalM
namespace Go.Bv
set_option linter.unusedSimpArgs false
set_option linter.unusedVariables false
set_option maxHeartbeats 4000000
open Go Go.Proofs

/-- The frames of records, one behind the other. -/
def frames (rs : List (List UInt8)) : List UInt8 := (rs.map frameOf).flatten
theorem frames_cons (p : List UInt8) (rs : List (List UInt8)) : frames (p :: rs) = frameOf p ++ frames rs := rfl
theorem frames_snoc (rs : List (List UInt8)) (p : List UInt8) : frames (rs ++ [p]) = frames rs ++ frameOf p := by simp [frames]
theorem scan_frames : ∀ (rs : List (List UInt8)) (r : List UInt8), (∀ p ∈ rs, p.length ≤ 1048576) → scan (frames rs ++ r) = (rs ++ (scan r).1, (frames rs).length + (scan r).2)
  | [], r, _ => by simp [frames]
  | p :: rs, r, h => by
    rw [frames_cons, List.append_assoc, scan_frame _ _ (h p (by simp)), scan_frames rs r fun q hq => h q (by simp [hq])]
    simp only [List.cons_append, List.length_append, frameOf_len]
    congr 1; omega
/-- A part of a frame is none. -/
theorem oneOf_cut {p : List UInt8} {c : Nat} (hp : p.length ≤ 1048576) (hc : c < (frameOf p).length) : oneOf ((frameOf p).take c) = none := by
  have hl := frameOf_len p
  have hlen : ((frameOf p).take c).length = c := by rw [List.length_take]; omega
  by_cases h8 : c < 8
  · exact if_pos (by omega)
  · have hn : num4 ((frameOf p).take c) = p.length := by
      have e : (frameOf p).take c = four p.length ++ ((four (crcSum (four p.length ++ p)).toNat ++ p).take (c - 4)) := by
        unfold frameOf
        rw [List.append_assoc, List.take_append, List.take_of_length_le (by rw [four_len]; omega), four_len]
      rw [e]
      exact num4_four _ (by omega) _
    unfold oneOf
    rw [if_neg (by omega), if_pos (.inr (by rw [hn]; omega))]
/-- Of frames that are cut, those are scanned that stand there whole. -/
theorem scan_cut : ∀ (rs : List (List UInt8)) (c : Nat), (∀ p ∈ rs, p.length ≤ 1048576) →
    ∃ j, j ≤ rs.length ∧ scan ((frames rs).take c) = (rs.take j, (frames (rs.take j)).length) ∧ (frames (rs.take j)).length ≤ c ∧ (j < rs.length → c < (frames (rs.take (j + 1))).length)
  | [], c, _ => ⟨0, Nat.le_refl _, by simp [frames, scan_short], by simp [frames], fun h => by simp at h⟩
  | p :: rs, c, h => by
    have hp := h p (by simp)
    have hl := frameOf_len p
    by_cases hc : c < (frameOf p).length
    · refine ⟨0, Nat.zero_le _, ?_, by simp [frames], fun _ => by simp [frames]; omega⟩
      rw [frames_cons, List.take_append, show c - (frameOf p).length = 0 by omega, List.take_zero, List.append_nil, scan_none (oneOf_cut hp hc)]
      rfl
    · obtain ⟨j, h1, h2, h3, h4⟩ := scan_cut rs (c - (frameOf p).length) fun q hq => h q (by simp [hq])
      refine ⟨j + 1, by simp; omega, ?_, ?_, fun hj => ?_⟩
      · rw [frames_cons, List.take_append, List.take_of_length_le (by omega), scan_frame _ _ hp, h2, List.take_succ_cons, frames_cons, List.length_append, hl]
        congr 1; omega
      · rw [List.take_succ_cons, frames_cons, List.length_append]; omega
      · have := h4 (by simpa using hj)
        rw [List.take_succ_cons, frames_cons, List.length_append]; omega
end Go.Bv
