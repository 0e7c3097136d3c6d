/- Part of the lift: an abstract walk of the program's code, proved sound, and what it shows of this program. -/
import Derived.Test.YtegjfgodmenagaaSvFrameM
namespace Go.Bv
set_option linter.unusedSimpArgs false
set_option linter.unusedVariables false
set_option maxHeartbeats 4000000
open Go Go.Proofs

theorem frameTurned_walk (l : List (List UInt8)) (w a : Int) (y : UInt8) (hl : l.length ≤ 2 ^ 47) : ACalls Try.prog Nm.law04_FrameTurned [recs l, i64 w, i64 a, u8 y] [] (.bool true) [] := by
  refine ACalls_of tab (dr_snd tab mixed) Nm.law04_FrameTurned_h rfl (by kernel_rfl) (Nat.le_of_ble_eq_true rfl) rfl ?_
  cases hs : shortL l with
  | false =>
    have h1 := short4_walk l hl
    rw [hs] at h1
    refine NCall.call (frameAwake_walk) rfl rfl ?_
    refine NCall.call (h1) rfl rfl ?_
    exact NRet.mk [] rfl ⟨.refl _, rfl⟩
  | true =>
    have h1 := short4_walk l hl
    rw [hs] at h1
    simp only [shortL, Bool.and_eq_true, decide_eq_true_eq, List.all_eq_true] at hs
    obtain ⟨s1, s2, s3⟩ := hs
    have h2 := laid_walk l s1 s2
    have hfl := frames_len l
    by_cases hw0 : w < 0 ∨ (l.length : Int) ≤ w
    · by_cases hc0 : w < 0
      · refine NCall.call (frameAwake_walk) rfl rfl ?_
        refine NCall.call (h1) rfl rfl ?_
        refine ND.yes (by omega) ?_
        exact NRet.mk [] rfl ⟨.refl _, rfl⟩
      · refine NCall.call (frameAwake_walk) rfl rfl ?_
        refine NCall.call (h1) rfl rfl ?_
        refine ND.no (by omega) ?_
        refine ND.yes (by (simp only [List.length_map, List.length_append, List.length_replicate, List.length_cons, List.length_nil, List.length_take, List.length_drop]; omega)) ?_
        exact NRet.mk [] rfl ⟨.refl _, rfl⟩
    · obtain ⟨w, rfl⟩ : ∃ c : Nat, w = c := ⟨w.toNat, by omega⟩
      have hw : w < l.length := by omega
      by_cases ha0 : a < 0 ∨ (4 + l[w].length : Int) ≤ a
      · have := s2 _ (List.getElem_mem hw)
        by_cases hc0 : a < 0
        · refine NCall.call (frameAwake_walk) rfl rfl ?_
          refine NCall.call (h1) rfl rfl ?_
          refine ND.no (by omega) ?_
          refine ND.no (by (simp only [List.length_map, List.length_append, List.length_replicate, List.length_cons, List.length_nil, List.length_take, List.length_drop]; omega)) ?_
          refine ND.yes (by omega) ?_
          exact NRet.mk [] rfl ⟨.refl _, rfl⟩
        · refine NCall.call (frameAwake_walk) rfl rfl ?_
          refine NCall.call (h1) rfl rfl ?_
          refine ND.no (by omega) ?_
          refine ND.no (by (simp only [List.length_map, List.length_append, List.length_replicate, List.length_cons, List.length_nil, List.length_take, List.length_drop]; omega)) ?_
          refine ND.no (by omega) ?_
          refine NP.mk (by omega) ?_
          refine NG.mapN (by omega) ?_
          refine NW.i64 (by (simp only [List.length_map, List.length_append, List.length_replicate, List.length_cons, List.length_nil, List.length_take, List.length_drop]; omega)) (by (simp only [List.length_map, List.length_append, List.length_replicate, List.length_cons, List.length_nil, List.length_take, List.length_drop]; omega)) ?_
          refine ND.yes (by (simp only [List.length_map, List.length_append, List.length_replicate, List.length_cons, List.length_nil, List.length_take, List.length_drop]; omega)) ?_
          exact NRet.mk [] rfl ⟨.refl _, rfl⟩
      · obtain ⟨a, rfl⟩ : ∃ c : Nat, a = c := ⟨a.toNat, by omega⟩
        have := s2 _ (List.getElem_mem hw)
        by_cases hy : y = 0
        · subst hy
          refine NCall.call (frameAwake_walk) rfl rfl ?_
          refine NCall.call (h1) rfl rfl ?_
          refine ND.no (by omega) ?_
          refine ND.no (by (simp only [List.length_map, List.length_append, List.length_replicate, List.length_cons, List.length_nil, List.length_take, List.length_drop]; omega)) ?_
          refine ND.no (by omega) ?_
          refine NP.mk (by omega) ?_
          refine NG.mapN (by omega) ?_
          refine NW.i64 (by (simp only [List.length_map, List.length_append, List.length_replicate, List.length_cons, List.length_nil, List.length_take, List.length_drop]; omega)) (by (simp only [List.length_map, List.length_append, List.length_replicate, List.length_cons, List.length_nil, List.length_take, List.length_drop]; omega)) ?_
          refine ND.no (by (simp only [List.length_map, List.length_append, List.length_replicate, List.length_cons, List.length_nil, List.length_take, List.length_drop]; omega)) ?_
          refine ND.yes (by rfl) ?_
          exact NRet.mk [] rfl ⟨.refl _, rfl⟩
        · refine NCall.call (frameAwake_walk) rfl rfl ?_
          refine NCall.call (h1) rfl rfl ?_
          refine ND.no (by omega) ?_
          refine ND.no (by (simp only [List.length_map, List.length_append, List.length_replicate, List.length_cons, List.length_nil, List.length_take, List.length_drop]; omega)) ?_
          refine ND.no (by omega) ?_
          refine NP.mk (by omega) ?_
          refine NG.mapN (by omega) ?_
          refine NW.i64 (by (simp only [List.length_map, List.length_append, List.length_replicate, List.length_cons, List.length_nil, List.length_take, List.length_drop]; omega)) (by (simp only [List.length_map, List.length_append, List.length_replicate, List.length_cons, List.length_nil, List.length_take, List.length_drop]; omega)) ?_
          refine ND.no (by (simp only [List.length_map, List.length_append, List.length_replicate, List.length_cons, List.length_nil, List.length_take, List.length_drop]; omega)) ?_
          refine NB.dec (fun hk5 => ?_) (fun hk5 => ?_)
          · exact NRet.mk [] rfl ⟨.refl _, rfl⟩
          refine NCall.atA (ACalls.frame (h2) rfl _) ?_
          refine NLoop.mk [] [0, 1, 2, 3, 9, 10, 11, 12] (fun m vs H => ∃ i, i ≤ w ∧ m = w - i ∧ H = [.row .vrow .leaf ((frames l).map u8)] ∧ vs = [recs l, i64 w, i64 a, u8 y, .own 0 0 (frames l).length, .bool true, i64 (frames (l.take i)).length, i64 i]) rfl ?_ ?_
          · exact Canon.mk [0] rfl ⟨w, 0, Nat.zero_le _, rfl, rfl, rfl⟩
          · rintro m vs H ⟨i, hi, rfl, rfl, rfl⟩
            have hm := frames_mono l (show i ≤ l.length by omega)
            rw [List.take_length] at hm
            by_cases hij : i < w
            · have hs := frames_step l (show i < l.length by omega)
              have := s2 _ (List.getElem_mem (show i < l.length by omega))
              refine ND.yes (by omega) ?_
              refine NP.mk (by omega) ?_
              refine NG.mapN (by omega) ?_
              refine NW.i64 (by (simp only [List.length_map, List.length_append, List.length_replicate, List.length_cons, List.length_nil, List.length_take, List.length_drop]; omega)) (by (simp only [List.length_map, List.length_append, List.length_replicate, List.length_cons, List.length_nil, List.length_take, List.length_drop]; omega)) ?_
              refine NW.i64 (by (simp only [List.length_map, List.length_append, List.length_replicate, List.length_cons, List.length_nil, List.length_take, List.length_drop]; omega)) (by (simp only [List.length_map, List.length_append, List.length_replicate, List.length_cons, List.length_nil, List.length_take, List.length_drop]; omega)) ?_
              refine NW.i64 (by omega) (by omega) ?_
              refine Canon.mk [0] rfl ⟨w - (i + 1), by omega, i + 1, by omega, rfl, rfl, ?_⟩
              rw [hs, List.length_map]
              exact congrArg (fun z => [recs l, i64 w, i64 a, u8 y, .own 0 0 (frames l).length, .bool true, AV.int .i64 z, i64 ((i : Int) + 1)]) (by omega)
            · have : i = w := by omega
              subst this
              have hs := frames_step l hw
              have hm2 := frames_mono l (show i + 1 ≤ l.length by omega)
              rw [List.take_length] at hm2
              have hidx : (frames (l.take i)).length + 4 + a < (frames l).length := by omega
              have h3 := scan_turned l i a ((frames l)[(frames (l.take i)).length + 4 + a] ^^^ y) (fun p hp => by have := s2 p hp; omega) hw (by omega) (by
                rw [List.getD_eq_getElem?_getD, List.getElem?_eq_getElem hidx]
                exact xor_ne hy)
              have h5 := scan_walk ((frames l).set ((frames (l.take i)).length + 4 + a) ((frames l)[(frames (l.take i)).length + 4 + a] ^^^ y)) (by simp; omega)
              rw [h3] at h5
              have h4 := sameL_walk (l.take i) (l.take i) (by simp; omega) (fun x hx => by have := s2 x (List.mem_of_mem_take hx); omega)
              rw [decide_eq_true rfl] at h4
              have e4 : List.take (i : Int).toNat (l.map bytes) = (l.take i).map bytes := by rw [Int.toNat_natCast, List.map_take]
              have hz : 0 + (((frames (l.take i)).length : Int) + 4 + (a : Int)).toNat = (frames (l.take i)).length + 4 + a := by omega
              have e5 : ∀ hb, List.take (frames l).length (((frames l).map u8).set (0 + (((frames (l.take i)).length : Int) + 4 + (a : Int)).toNat) (AV.int .u8 (bitop .xor .u8 (((frames l)[0 + (((frames (l.take i)).length : Int) + 4 + (a : Int)).toNat]'hb).toNat : Int) (y.toNat : Int)))) =
                  ((frames l).set ((frames (l.take i)).length + 4 + a) ((frames l)[(frames (l.take i)).length + 4 + a] ^^^ y)).map u8 := fun hb => by
                simp only [hz]
                rw [List.take_of_length_le (by simp), List.map_set, xor_u8]; rfl
              refine ND.no (by omega) ?_
              refine NW.i64 (by omega) (by omega) ?_
              refine NW.i64 (by omega) (by omega) ?_
              refine ND.no (by omega) ?_
              refine NW.i64 (by omega) (by omega) ?_
              refine NW.i64 (by omega) (by omega) ?_
              refine NP.mk (by (simp only [List.length_map, List.length_append, List.length_replicate, List.length_cons, List.length_nil, List.length_take, List.length_drop]; omega)) ?_
              refine NG.mapN (by omega) ?_
              refine NP.mk (by (simp only [List.length_map, List.length_append, List.length_replicate, List.length_cons, List.length_nil, List.length_take, List.length_drop]; omega)) ?_
              refine NG.mapN (by omega) ?_
              refine NCall.roA [0] ?_
              rw [(e5 _)]
              refine NCall.call (h5) rfl rfl ?_
              refine ND.yes (by omega) ?_
              refine NP.mk (by (simp only [List.length_map, List.length_append, List.length_replicate, List.length_cons, List.length_nil, List.length_take, List.length_drop]; omega)) ?_
              rw [(e4)]
              refine NCall.call (h4) rfl rfl ?_
              exact NRet.mk [] rfl ⟨.refl _, rfl⟩
end Go.Bv
