/- Part of the lift: an abstract walk of the program's code, proved sound, and what it shows of this program. -/
import Derived.Test.YtegjfgodmenagaaSvFrameL
namespace Go.Bv
set_option linter.unusedSimpArgs false
set_option linter.unusedVariables false
set_option maxHeartbeats 4000000
open Go Go.Proofs

theorem frames_mono (l : List (List UInt8)) {i j : Nat} (h : i ≤ j) : (frames (l.take i)).length ≤ (frames (l.take j)).length := by
  have : l.take j = l.take i ++ (l.take j).drop i := by
    conv => lhs; rw [← List.take_append_drop i (l.take j), List.take_take, Nat.min_eq_left h]
  rw [this, frames_append, List.length_append]; omega
theorem frames_step (l : List (List UInt8)) {i : Nat} (h : i < l.length) : (frames (l.take (i + 1))).length = (frames (l.take i)).length + 8 + l[i].length := by
  rw [List.take_succ_eq_append_getElem h, frames_snoc, List.length_append, frameOf_len]; omega

theorem frameTorn_walk (l : List (List UInt8)) (cut : Int) (hl : l.length ≤ 2 ^ 47) : ACalls Try.prog Nm.law04_FrameTorn [recs l, i64 cut] [] (.bool true) [] := by
  refine ACalls_of tab (dr_snd tab mixed) Nm.law04_FrameTorn_h rfl (by kernel_rfl) (Nat.le_of_ble_eq_true rfl) rfl ?_
  cases hs : shortL l with
  | false =>
    have h1 := short4_walk l hl
    rw [hs] at h1
    refine NCall.call (frameAwake_walk) rfl rfl ?_
    refine NCall.call (h1) rfl rfl ?_
    exact NRet.mk [] rfl ⟨.refl _, rfl⟩
  | true =>
    have h1 := short4_walk l hl
    rw [hs] at h1
    simp only [shortL, Bool.and_eq_true, decide_eq_true_eq, List.all_eq_true] at hs
    obtain ⟨s1, s2, s3⟩ := hs
    have h2 := laid_walk l s1 s2
    have hfl := frames_len l
    by_cases hc : cut < 0 ∨ ((frames l).length : Int) < cut
    · by_cases hc0 : cut < 0
      · refine NCall.call (frameAwake_walk) rfl rfl ?_
        refine NCall.call (h1) rfl rfl ?_
        refine NCall.atA (ACalls.frame (h2) rfl _) ?_
        refine ND.yes (by omega) ?_
        exact NRet.mk [] rfl ⟨.refl _, rfl⟩
      · refine NCall.call (frameAwake_walk) rfl rfl ?_
        refine NCall.call (h1) rfl rfl ?_
        refine NCall.atA (ACalls.frame (h2) rfl _) ?_
        refine ND.no (by omega) ?_
        refine ND.yes (by omega) ?_
        exact NRet.mk [] rfl ⟨.refl _, rfl⟩
    · obtain ⟨c, rfl⟩ : ∃ c : Nat, cut = c := ⟨cut.toNat, by omega⟩
      obtain ⟨j, j1, j2, j3, j4⟩ := scan_cut l c fun p hp => by have := s2 p hp; omega
      refine NCall.call (frameAwake_walk) rfl rfl ?_
      refine NCall.call (h1) rfl rfl ?_
      refine NCall.atA (ACalls.frame (h2) rfl _) ?_
      refine ND.no (by omega) ?_
      refine ND.no (by omega) ?_
      refine NLoop.mk [] [0, 1, 5, 7, 8] (fun m vs H => ∃ i, i ≤ j ∧ m = j - i ∧ H = [.row .vrow .leaf ((frames l).map u8)] ∧ vs = [recs l, i64 c, .own 0 0 (frames l).length, i64 i, i64 (frames (l.take i)).length]) rfl ?_ ?_
      · exact Canon.mk [0] rfl ⟨j, 0, Nat.zero_le _, rfl, rfl, rfl⟩
      · rintro m vs H ⟨i, hi, rfl, rfl, rfl⟩
        by_cases hij : i < j
        · have hm := frames_mono l (show i + 1 ≤ j by omega)
          have hs := frames_step l (show i < l.length by omega)
          refine ND.yes (by (simp only [List.length_map, List.length_append, List.length_replicate, List.length_cons, List.length_nil, List.length_take, List.length_drop]; omega)) ?_
          refine NW.i64 (by omega) (by omega) ?_
          refine NP.mk (by omega) ?_
          refine NG.mapN (by omega) ?_
          refine NW.i64 (by (simp only [List.length_map, List.length_append, List.length_replicate, List.length_cons, List.length_nil, List.length_take, List.length_drop]; omega)) (by (simp only [List.length_map, List.length_append, List.length_replicate, List.length_cons, List.length_nil, List.length_take, List.length_drop]; omega)) ?_
          refine ND.yes (by (simp only [List.length_map, List.length_append, List.length_replicate, List.length_cons, List.length_nil, List.length_take, List.length_drop]; omega)) ?_
          refine NP.mk (by omega) ?_
          refine NG.mapN (by omega) ?_
          refine NW.i64 (by (simp only [List.length_map, List.length_append, List.length_replicate, List.length_cons, List.length_nil, List.length_take, List.length_drop]; omega)) (by (simp only [List.length_map, List.length_append, List.length_replicate, List.length_cons, List.length_nil, List.length_take, List.length_drop]; omega)) ?_
          refine NW.i64 (by (simp only [List.length_map, List.length_append, List.length_replicate, List.length_cons, List.length_nil, List.length_take, List.length_drop]; omega)) (by (simp only [List.length_map, List.length_append, List.length_replicate, List.length_cons, List.length_nil, List.length_take, List.length_drop]; omega)) ?_
          refine NW.i64 (by omega) (by omega) ?_
          refine Canon.mk [0] rfl ⟨j - (i + 1), by omega, i + 1, by omega, rfl, rfl, ?_⟩
          rw [hs, List.length_map]
          exact congrArg (fun z => [recs l, i64 c, .own 0 0 (frames l).length, i64 ((i : Int) + 1), AV.int .i64 z]) (by omega)
        · have : i = j := by omega
          subst this
          have hm : (frames (l.take i)).length ≤ (frames l).length := by
            have := frames_mono l (show i ≤ l.length by omega)
            rwa [List.take_length] at this
          have h3 := scan_walk ((frames l).take c) (by simp; omega)
          rw [j2] at h3
          have h4 := sameL_walk (l.take i) (l.take i) (by simp; omega) (fun x hx => by have := s2 x (List.mem_of_mem_take hx); omega)
          rw [decide_eq_true rfl] at h4
          have e3 : List.take (c : Int).toNat ((frames l).map u8) = ((frames l).take c).map u8 := by rw [Int.toNat_natCast, List.map_take]
          have e4 : List.take (i : Int).toNat (l.map bytes) = (l.take i).map bytes := by rw [Int.toNat_natCast, List.map_take]
          by_cases hil : i < l.length
          · have := j4 hil
            have hs := frames_step l hil
            have := s2 _ (List.getElem_mem hil)
            refine ND.yes (by (simp only [List.length_map, List.length_append, List.length_replicate, List.length_cons, List.length_nil, List.length_take, List.length_drop]; omega)) ?_
            refine NW.i64 (by omega) (by omega) ?_
            refine NP.mk (by omega) ?_
            refine NG.mapN (by omega) ?_
            refine NW.i64 (by (simp only [List.length_map, List.length_append, List.length_replicate, List.length_cons, List.length_nil, List.length_take, List.length_drop]; omega)) (by (simp only [List.length_map, List.length_append, List.length_replicate, List.length_cons, List.length_nil, List.length_take, List.length_drop]; omega)) ?_
            refine ND.no (by (simp only [List.length_map, List.length_append, List.length_replicate, List.length_cons, List.length_nil, List.length_take, List.length_drop]; omega)) ?_
            refine NP.mk (by (simp only [List.length_map, List.length_append, List.length_replicate, List.length_cons, List.length_nil, List.length_take, List.length_drop]; omega)) ?_
            refine NCall.roA [0] ?_
            rw [(e3)]
            refine NCall.call (h3) rfl rfl ?_
            refine ND.yes (by omega) ?_
            refine NP.mk (by (simp only [List.length_map, List.length_append, List.length_replicate, List.length_cons, List.length_nil, List.length_take, List.length_drop]; omega)) ?_
            rw [(e4)]
            refine NCall.call (h4) rfl rfl ?_
            exact NRet.mk [] rfl ⟨.refl _, rfl⟩
          · refine ND.no (by (simp only [List.length_map, List.length_append, List.length_replicate, List.length_cons, List.length_nil, List.length_take, List.length_drop]; omega)) ?_
            refine NP.mk (by (simp only [List.length_map, List.length_append, List.length_replicate, List.length_cons, List.length_nil, List.length_take, List.length_drop]; omega)) ?_
            refine NCall.roA [0] ?_
            rw [(e3)]
            refine NCall.call (h3) rfl rfl ?_
            refine ND.yes (by omega) ?_
            refine NP.mk (by (simp only [List.length_map, List.length_append, List.length_replicate, List.length_cons, List.length_nil, List.length_take, List.length_drop]; omega)) ?_
            rw [(e4)]
            refine NCall.call (h4) rfl rfl ?_
            exact NRet.mk [] rfl ⟨.refl _, rfl⟩

end Go.Bv
