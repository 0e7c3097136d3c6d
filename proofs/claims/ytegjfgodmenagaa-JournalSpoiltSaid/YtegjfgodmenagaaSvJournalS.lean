/- Part of the lift: an abstract walk of the program's code, proved sound, and what it shows of this program. -/
import Derived.Test.YtegjfgodmenagaaSvJournalM
import Derived.Test.YtegjfgodmenagaaSvFrameN
namespace Go.Bv
set_option linter.unusedSimpArgs false
set_option linter.unusedVariables false
set_option maxHeartbeats 4000000
open Go Go.Proofs

theorem diskAll_own (f l : List UInt8) (h : f.length + l.length ≤ 2 ^ 45) : ACalls Try.prog Nm.disk_All [diskA f l] [] (.own 0 0 (f ++ l).length) [.row .vrow .leaf ((f ++ l).map u8)] := by
  refine ACalls_of tab (dr_snd tab mixed) Nm.disk_All_h rfl (by kernel_rfl) (Nat.le_of_ble_eq_true rfl) rfl ?_
  have h1 := concatB_own [f, l] (by simp; omega) (by simp)
  rw [show [f, l].flatten = f ++ l by simp] at h1
  refine NCall.atA (ACalls.frame (h1) rfl _) ?_
  exact NRet.mk [1] rfl ⟨.refl _, rfl⟩

theorem journalSpoilt_walk (l : List (List UInt8)) (w a : Int) (y : UInt8) (more : List UInt8) (hl : l.length ≤ 2 ^ 47) (hm : more.length ≤ reachBytes) : ACalls Try.prog Nm.law06_JournalSpoilt [recs l, i64 w, i64 a, u8 y, bytes more] [] (.bool true) [] := by
  have hm := reach_lt hm
  refine ACalls_of tab (dr_snd tab mixed) Nm.law06_JournalSpoilt_h rfl (by kernel_rfl) (Nat.le_of_ble_eq_true rfl) rfl ?_
  cases hs : shortL l with
  | false =>
    have h1 := short4_walk l hl
    rw [hs] at h1
    refine NCall.call (journalAwake_walk) rfl rfl ?_
    refine NCall.call (h1) rfl rfl ?_
    exact NRet.mk [] rfl ⟨.refl _, rfl⟩
  | true =>
    have h1 := short4_walk l hl
    rw [hs] at h1
    simp only [shortL, Bool.and_eq_true, decide_eq_true_eq, List.all_eq_true] at hs
    obtain ⟨s1, s2, s3⟩ := hs
    have hfl := frames_len l
    by_cases hw0 : w < 0 ∨ (l.length : Int) ≤ w
    · by_cases hc0 : w < 0
      · refine NCall.call (journalAwake_walk) rfl rfl ?_
        refine NCall.call (h1) rfl rfl ?_
        refine ND.yes (by omega) ?_
        exact NRet.mk [] rfl ⟨.refl _, rfl⟩
      · refine NCall.call (journalAwake_walk) rfl rfl ?_
        refine NCall.call (h1) rfl rfl ?_
        refine ND.no (by omega) ?_
        refine ND.yes (by (simp only [List.length_map, List.length_append, List.length_replicate, List.length_cons, List.length_nil, List.length_take, List.length_drop]; omega)) ?_
        exact NRet.mk [] rfl ⟨.refl _, rfl⟩
    · obtain ⟨w, rfl⟩ : ∃ c : Nat, w = c := ⟨w.toNat, by omega⟩
      have hw : w < l.length := by omega
      have := s2 _ (List.getElem_mem hw)
      by_cases ha0 : a < 0 ∨ (4 + l[w].length : Int) ≤ a
      · by_cases hc0 : a < 0
        · refine NCall.call (journalAwake_walk) rfl rfl ?_
          refine NCall.call (h1) rfl rfl ?_
          refine ND.no (by omega) ?_
          refine ND.no (by (simp only [List.length_map, List.length_append, List.length_replicate, List.length_cons, List.length_nil, List.length_take, List.length_drop]; omega)) ?_
          refine ND.yes (by omega) ?_
          exact NRet.mk [] rfl ⟨.refl _, rfl⟩
        · refine NCall.call (journalAwake_walk) rfl rfl ?_
          refine NCall.call (h1) rfl rfl ?_
          refine ND.no (by omega) ?_
          refine ND.no (by (simp only [List.length_map, List.length_append, List.length_replicate, List.length_cons, List.length_nil, List.length_take, List.length_drop]; omega)) ?_
          refine ND.no (by omega) ?_
          refine NP.mk (by omega) ?_
          refine NG.mapN (by omega) ?_
          refine NW.i64 (by (simp only [List.length_map, List.length_append, List.length_replicate, List.length_cons, List.length_nil, List.length_take, List.length_drop]; omega)) (by (simp only [List.length_map, List.length_append, List.length_replicate, List.length_cons, List.length_nil, List.length_take, List.length_drop]; omega)) ?_
          refine ND.yes (by (simp only [List.length_map, List.length_append, List.length_replicate, List.length_cons, List.length_nil, List.length_take, List.length_drop]; omega)) ?_
          exact NRet.mk [] rfl ⟨.refl _, rfl⟩
      · obtain ⟨a, rfl⟩ : ∃ c : Nat, a = c := ⟨a.toNat, by omega⟩
        by_cases hy : y = 0
        · subst hy
          refine NCall.call (journalAwake_walk) rfl rfl ?_
          refine NCall.call (h1) rfl rfl ?_
          refine ND.no (by omega) ?_
          refine ND.no (by (simp only [List.length_map, List.length_append, List.length_replicate, List.length_cons, List.length_nil, List.length_take, List.length_drop]; omega)) ?_
          refine ND.no (by omega) ?_
          refine NP.mk (by omega) ?_
          refine NG.mapN (by omega) ?_
          refine NW.i64 (by (simp only [List.length_map, List.length_append, List.length_replicate, List.length_cons, List.length_nil, List.length_take, List.length_drop]; omega)) (by (simp only [List.length_map, List.length_append, List.length_replicate, List.length_cons, List.length_nil, List.length_take, List.length_drop]; omega)) ?_
          refine ND.no (by (simp only [List.length_map, List.length_append, List.length_replicate, List.length_cons, List.length_nil, List.length_take, List.length_drop]; omega)) ?_
          refine ND.yes (by rfl) ?_
          exact NRet.mk [] rfl ⟨.refl _, rfl⟩
        · by_cases hmm : 1000 < more.length
          · refine NCall.call (journalAwake_walk) rfl rfl ?_
            refine NCall.call (h1) rfl rfl ?_
            refine ND.no (by omega) ?_
            refine ND.no (by (simp only [List.length_map, List.length_append, List.length_replicate, List.length_cons, List.length_nil, List.length_take, List.length_drop]; omega)) ?_
            refine ND.no (by omega) ?_
            refine NP.mk (by omega) ?_
            refine NG.mapN (by omega) ?_
            refine NW.i64 (by (simp only [List.length_map, List.length_append, List.length_replicate, List.length_cons, List.length_nil, List.length_take, List.length_drop]; omega)) (by (simp only [List.length_map, List.length_append, List.length_replicate, List.length_cons, List.length_nil, List.length_take, List.length_drop]; omega)) ?_
            refine ND.no (by (simp only [List.length_map, List.length_append, List.length_replicate, List.length_cons, List.length_nil, List.length_take, List.length_drop]; omega)) ?_
            refine NB.dec (fun hk5 => ?_) (fun hk5 => ?_)
            · exact NRet.mk [] rfl ⟨.refl _, rfl⟩
            refine ND.yes (by (simp only [List.length_map, List.length_append, List.length_replicate, List.length_cons, List.length_nil, List.length_take, List.length_drop]; omega)) ?_
            exact NRet.mk [] rfl ⟨.refl _, rfl⟩
          · refine NCall.call (journalAwake_walk) rfl rfl ?_
            refine NCall.call (h1) rfl rfl ?_
            refine ND.no (by omega) ?_
            refine ND.no (by (simp only [List.length_map, List.length_append, List.length_replicate, List.length_cons, List.length_nil, List.length_take, List.length_drop]; omega)) ?_
            refine ND.no (by omega) ?_
            refine NP.mk (by omega) ?_
            refine NG.mapN (by omega) ?_
            refine NW.i64 (by (simp only [List.length_map, List.length_append, List.length_replicate, List.length_cons, List.length_nil, List.length_take, List.length_drop]; omega)) (by (simp only [List.length_map, List.length_append, List.length_replicate, List.length_cons, List.length_nil, List.length_take, List.length_drop]; omega)) ?_
            refine ND.no (by (simp only [List.length_map, List.length_append, List.length_replicate, List.length_cons, List.length_nil, List.length_take, List.length_drop]; omega)) ?_
            refine NB.dec (fun hk5 => ?_) (fun hk5 => ?_)
            · exact NRet.mk [] rfl ⟨.refl _, rfl⟩
            refine ND.no (by (simp only [List.length_map, List.length_append, List.length_replicate, List.length_cons, List.length_nil, List.length_take, List.length_drop]; omega)) ?_
            refine NLoop.mk [] [0, 1, 2, 3, 4, 11, 12, 13] (fun m vs H => ∃ i, i ≤ l.length ∧ m = l.length - i ∧ H = [.row .box (.agg 2) [diskA [] (frames (l.take i))]] ∧
              vs = [recs l, i64 w, i64 a, u8 y, bytes more, .ptr 0 0 0, i64 (frames (l.take (min i w))).length, i64 i]) rfl ?_ ?_
            · refine Canon.wb [0] [recs l, i64 w, i64 a, u8 y, bytes more, .ptr 0 0 0, i64 0, i64 0] [.row .box (.agg 2) [diskA [] []]] rfl ⟨LeAs.refl _, .cons (.row _ _ (.cons (.agg (.cons (.nils _) (.cons (.nils _) .nil))) .nil)) .nil, l.length, 0, Nat.zero_le _, rfl, rfl, ?_⟩
              rw [Nat.zero_min]; rfl
            · rintro m vs H ⟨i, hi, rfl, rfl, rfl⟩
              have hm := frames_mono l (show i ≤ l.length by omega)
              rw [List.take_length] at hm
              by_cases hil : i < l.length
              · have hs := frames_step l hil
                have hsi := s2 _ (List.getElem_mem hil)
                have hm3 := frames_mono l (show min i w ≤ i by omega)
                have h2 := append_walk [] (frames (l.take i)) l[i] (by simp; omega) (by omega)
                rw [if_pos (by simp; omega), ← frames_snoc, ← List.take_succ_eq_append_getElem hil] at h2
                by_cases hiw : i < w
                · rw [Nat.min_eq_left (by omega)] at hm3 ⊢
                  refine ND.yes (by (simp only [List.length_map, List.length_append, List.length_replicate, List.length_cons, List.length_nil, List.length_take, List.length_drop]; omega)) ?_
                  refine NP.mk (by kernel_rfl) ?_
                  apply NDr.rd [0]
                  · intro fH TH
                    exact ⟨rfl, rfl⟩
                  apply NDr.pure
                  · exact ⟨rfl, rfl⟩
                  apply NDr.pure
                  · exact ⟨rfl, rfl⟩
                  apply NDr.pure
                  · refine NP.mk (by omega) ?_
                    refine NG.mapN (by omega) ?_
                    exact ⟨rfl, rfl⟩
                  apply NDr.pure
                  · exact ⟨rfl, rfl⟩
                  apply NDr.pure
                  · refine NCall.call (h2) rfl rfl ?_
                    exact ⟨rfl, rfl⟩
                  apply NDr.pure
                  · exact ⟨rfl, rfl⟩
                  apply NDr.pure
                  · exact ⟨rfl, rfl⟩
                  apply NDr.pure
                  · exact ⟨rfl, rfl⟩
                  apply NDr.efw []
                  · exact ⟨rfl, rfl⟩
                  · repeat (first | exact trivial | refine ⟨by first | trivial | rfl, ?_⟩)
                  apply NDr.efw [1]
                  · exact ⟨rfl, rfl⟩
                  · repeat (first | exact trivial | refine ⟨by first | trivial | rfl, ?_⟩)
                  apply NDr.pure
                  · exact ⟨rfl, rfl⟩
                  refine NP.mk (by kernel_rfl) ?_
                  refine ND.yes (by omega) ?_
                  refine ND.yes (by omega) ?_
                  refine NP.mk (by omega) ?_
                  refine NG.mapN (by omega) ?_
                  refine NW.i64 (by (simp only [List.length_map, List.length_append, List.length_replicate, List.length_cons, List.length_nil, List.length_take, List.length_drop]; omega)) (by (simp only [List.length_map, List.length_append, List.length_replicate, List.length_cons, List.length_nil, List.length_take, List.length_drop]; omega)) ?_
                  refine NW.i64 (by (simp only [List.length_map, List.length_append, List.length_replicate, List.length_cons, List.length_nil, List.length_take, List.length_drop]; omega)) (by (simp only [List.length_map, List.length_append, List.length_replicate, List.length_cons, List.length_nil, List.length_take, List.length_drop]; omega)) ?_
                  refine NW.i64 (by omega) (by omega) ?_
                  refine Canon.mk [0] rfl ⟨l.length - (i + 1), by omega, i + 1, by omega, rfl, rfl, ?_⟩
                  rw [Nat.min_eq_left (by omega), hs, List.length_map]
                  exact congrArg (fun z => [recs l, i64 w, i64 a, u8 y, bytes more, .ptr 0 0 0, AV.int .i64 z, i64 ((i : Int) + 1)]) (by omega)
                · rw [Nat.min_eq_right (by omega)] at hm3 ⊢
                  refine ND.yes (by (simp only [List.length_map, List.length_append, List.length_replicate, List.length_cons, List.length_nil, List.length_take, List.length_drop]; omega)) ?_
                  refine NP.mk (by kernel_rfl) ?_
                  apply NDr.rd [0]
                  · intro fH TH
                    exact ⟨rfl, rfl⟩
                  apply NDr.pure
                  · exact ⟨rfl, rfl⟩
                  apply NDr.pure
                  · exact ⟨rfl, rfl⟩
                  apply NDr.pure
                  · refine NP.mk (by omega) ?_
                    refine NG.mapN (by omega) ?_
                    exact ⟨rfl, rfl⟩
                  apply NDr.pure
                  · exact ⟨rfl, rfl⟩
                  apply NDr.pure
                  · refine NCall.call (h2) rfl rfl ?_
                    exact ⟨rfl, rfl⟩
                  apply NDr.pure
                  · exact ⟨rfl, rfl⟩
                  apply NDr.pure
                  · exact ⟨rfl, rfl⟩
                  apply NDr.pure
                  · exact ⟨rfl, rfl⟩
                  apply NDr.efw []
                  · exact ⟨rfl, rfl⟩
                  · repeat (first | exact trivial | refine ⟨by first | trivial | rfl, ?_⟩)
                  apply NDr.efw [1]
                  · exact ⟨rfl, rfl⟩
                  · repeat (first | exact trivial | refine ⟨by first | trivial | rfl, ?_⟩)
                  apply NDr.pure
                  · exact ⟨rfl, rfl⟩
                  refine NP.mk (by kernel_rfl) ?_
                  refine ND.yes (by omega) ?_
                  refine ND.no (by omega) ?_
                  refine NW.i64 (by omega) (by omega) ?_
                  refine Canon.mk [0] rfl ⟨l.length - (i + 1), by omega, i + 1, by omega, rfl, rfl, ?_⟩
                  rw [Nat.min_eq_right (by omega)]; rfl
              · have : i = l.length := by omega
                subst this
                rw [Nat.min_eq_right (by omega), List.take_length]
                have hs := frames_step l hw
                have hm2 := frames_mono l (show w + 1 ≤ l.length by omega)
                have hm4 := frames_mono l (show w ≤ l.length by omega)
                rw [List.take_length] at hm2 hm4
                have hidx : (frames (l.take w)).length + 4 + a < (frames l).length := by omega
                have h2 := diskAll_own [] (frames l) (by simp; omega)
                rw [List.nil_append] at h2
                have h3 := scan_turned l w a ((frames l)[(frames (l.take w)).length + 4 + a] ^^^ y) (fun p hp => by have := s2 p hp; omega) hw (by omega) (by
                  rw [List.getD_eq_getElem?_getD, List.getElem?_eq_getElem hidx]
                  exact xor_ne hy)
                have h4 := open_walk ((frames l).set ((frames (l.take w)).length + 4 + a) ((frames l)[(frames (l.take w)).length + 4 + a] ^^^ y)) [] (by simp; omega)
                have htk : ((frames l).set ((frames (l.take w)).length + 4 + a) ((frames l)[(frames (l.take w)).length + 4 + a] ^^^ y)).take (frames (l.take w)).length = frames (l.take w) := by
                  rw [List.take_set_of_le (by omega)]
                  have : frames l = frames (l.take w) ++ frames (l.drop w) := by rw [← frames_append, List.take_append_drop]
                  rw [this, List.take_left' rfl]
                rw [List.append_nil, h3] at h4
                dsimp only at h4
                rw [htk] at h4
                have h4 := h4.args (args := [.agg [bytes ((frames l).set ((frames (l.take w)).length + 4 + a) ((frames l)[(frames (l.take w)).length + 4 + a] ^^^ y)), .nils]]) (.cons (.agg (.cons (.refl _) (.cons (.nils .leaf) .nil))) .nil)
                have h5 := append_walk (frames (l.take w)) [] more (by simp; omega) (by omega)
                rw [if_pos (by simp; omega), List.nil_append] at h5
                have h6 := open_walk (frames (l.take w)) (frameOf more) (by rw [frameOf_len]; omega)
                have h7 := scan_frame more [] (by omega)
                rw [List.append_nil, scan_short (l := []) (by decide)] at h7
                rw [scan_frames _ _ (fun p hp => by have := s2 p (List.mem_of_mem_take hp); omega), h7] at h6
                dsimp only at h6
                have e6 : ∀ hb, (l.take w ++ [more])[w]'hb = more := fun hb => by
                  rw [List.getElem_append_right (by simp; omega)]; simp
                have h8 := sameL_walk (l.take w) (l.take w) (by simp; omega) (fun x hx => by have := s2 x (List.mem_of_mem_take hx); omega)
                have h9 := sameB_walk more more (by omega)
                rw [decide_eq_true rfl] at h8 h9
                have e4 : List.take (w : Int).toNat (l.map bytes) = (l.take w).map bytes := by rw [Int.toNat_natCast, List.map_take]
                have hz : 0 + (((frames (l.take w)).length : Int) + 4 + (a : Int)).toNat = (frames (l.take w)).length + 4 + a := by omega
                have e5 : ∀ hb, List.take (frames l).length (((frames l).map u8).set (0 + (((frames (l.take w)).length : Int) + 4 + (a : Int)).toNat) (AV.int .u8 (bitop .xor .u8 (((frames l)[0 + (((frames (l.take w)).length : Int) + 4 + (a : Int)).toNat]'hb).toNat : Int) (y.toNat : Int)))) =
                    ((frames l).set ((frames (l.take w)).length + 4 + a) ((frames l)[(frames (l.take w)).length + 4 + a] ^^^ y)).map u8 := fun hb => by
                  simp only [hz]
                  rw [List.take_of_length_le (by simp), List.map_set, xor_u8]; rfl
                refine ND.no (by (simp only [List.length_map, List.length_append, List.length_replicate, List.length_cons, List.length_nil, List.length_take, List.length_drop]; omega)) ?_
                refine NCall.atA (ACalls.frame (h2) rfl _) ?_
                refine NW.i64 (by omega) (by omega) ?_
                refine NW.i64 (by omega) (by omega) ?_
                refine ND.no (by omega) ?_
                refine NW.i64 (by omega) (by omega) ?_
                refine NW.i64 (by omega) (by omega) ?_
                refine NP.mk (by (simp only [List.length_map, List.length_append, List.length_replicate, List.length_cons, List.length_nil, List.length_take, List.length_drop]; omega)) ?_
                refine NG.mapN (by omega) ?_
                refine NP.mk (by (simp only [List.length_map, List.length_append, List.length_replicate, List.length_cons, List.length_nil, List.length_take, List.length_drop]; omega)) ?_
                refine NG.mapN (by omega) ?_
                refine NCall.roA [1] ?_
                rw [(e5 _)]
                refine NCall.call (h4) rfl rfl ?_
                refine NP.mk (by (simp only [List.length_map, List.length_append, List.length_replicate, List.length_cons, List.length_nil, List.length_take, List.length_drop]; omega)) ?_
                rw [(e4)]
                refine NCall.call (h8) rfl rfl ?_
                refine NCall.call (h5) rfl rfl ?_
                refine NCall.call (h6) rfl rfl ?_
                refine ND.yes (by omega) ?_
                refine NW.i64 (by omega) (by omega) ?_
                refine ND.yes (by (simp only [List.length_map, List.length_append, List.length_replicate, List.length_cons, List.length_nil, List.length_take, List.length_drop]; omega)) ?_
                refine NP.mk (by omega) ?_
                refine NG.mapN (by (simp only [List.length_map, List.length_append, List.length_replicate, List.length_cons, List.length_nil, List.length_take, List.length_drop]; omega)) ?_
                rw [(e6 _)]
                refine NCall.call (h9) rfl rfl ?_
                exact NRet.mk [] rfl ⟨.refl _, rfl⟩
end Go.Bv
