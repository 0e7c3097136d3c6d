/- Part of the lift: an abstract walk of the program's code, proved sound, and what it shows of this program. -/
import Derived.Test.YtegjfgodmenagaaSvFrameR
import Derived.Test.YtegjfgodmenagaaSvScanP
import Derived.Test.YtegjfgodmenagaaSvTurn
import Derived.Test.YtegjfgodmenagaaBvAuto
namespace Go.Bv
set_option linter.unusedSimpArgs false
set_option linter.unusedVariables false
set_option maxHeartbeats 4000000
open Go Go.Proofs

theorem concatB_own (ls : List (List UInt8)) (hl : ls.flatten.length ≤ 2 ^ 45) (hk : ls.length ≤ 2 ^ 45) : ACalls Try.prog Nm.slices_Concat_byte_byte [.list .leaf (ls.map bytes)] [] (.own 0 0 ls.flatten.length) [.row .vrow .leaf (ls.flatten.map u8)] := by
  refine ACalls_of tab noDr_snd Nm.slices_Concat_byte_byte_h rfl (by kernel_rfl) (Nat.le_of_ble_eq_true rfl) rfl ?_
  refine NLoop.mk [] [0, 3, 9, 10, 11] (fun m vs H => ∃ i, i ≤ ls.length ∧ m = ls.length - i ∧ H = [] ∧ vs = [.list .leaf (ls.map bytes), i64 (ls.take i).flatten.length, .list .leaf (ls.map bytes), i64 ls.length, i64 i]) rfl ?_ ?_
  · exact Canon.mk [] rfl ⟨ls.length, 0, Nat.zero_le _, rfl, rfl, by simp [i64]⟩
  · rintro m vs H ⟨i, hi, rfl, rfl, rfl⟩
    have hs := flatten_take_le ls i
    have hs' := flatten_take_le ls (i + 1)
    refine NB.dec (fun h => ?_) (fun h => ?_)
    · have hi' : i < ls.length := by omega
      have hsucc := flatten_succ_len ls hi'
      refine NP.mk (by omega) ?_
      refine NG.mapN (by omega) ?_
      refine NW.i64 (by (simp only [List.length_map, List.length_append, List.length_replicate, List.length_cons, List.length_nil, List.length_take, List.length_drop]; omega)) (by (simp only [List.length_map, List.length_append, List.length_replicate, List.length_cons, List.length_nil, List.length_take, List.length_drop]; omega)) ?_
      refine ND.no (by omega) ?_
      refine NW.i64 (by omega) (by omega) ?_
      refine Canon.mk [] rfl ⟨ls.length - (i + 1), by omega, i + 1, by omega, rfl, rfl, ?_⟩
      rw [hsucc, List.length_map]; rfl
    · have : i = ls.length := by omega
      subst this
      rw [List.take_length] at *
      generalize hn : ls.flatten.length = n at *
      refine NCall.atA (ACalls.frame (growB_walk n (by omega)) rfl _) ?_
      refine NLoop.mk [] [6, 25, 26, 27] (fun m vs H => ∃ i, i ≤ ls.length ∧ m = ls.length - i ∧ H = [.row .vrow .leaf ((ls.take i).flatten.map u8 ++ List.replicate (n - (ls.take i).flatten.length) (u8 0))] ∧ vs = [.own 0 0 (ls.take i).flatten.length, .list .leaf (ls.map bytes), i64 ls.length, i64 i]) rfl ?_ ?_
      · exact Canon.mk [0] rfl ⟨ls.length, 0, Nat.zero_le _, rfl, rfl, by simp [i64]⟩
      · rintro m vs H ⟨i, hi, rfl, rfl, rfl⟩
        have hs := flatten_take_le ls i
        have hs' := flatten_take_le ls (i + 1)
        refine NB.dec (fun h => ?_) (fun h => ?_)
        · have hi' : i < ls.length := by omega
          have hsucc := flatten_succ_len ls hi'
          refine NP.mk (by omega) ?_
          refine NG.mapN (by omega) ?_
          refine NFz.own ?_
          refine NApp.inA (by (simp only [List.length_map, List.length_append, List.length_replicate, List.length_cons, List.length_nil, List.length_take, List.length_drop]; omega)) ?_
          refine NW.i64 (by omega) (by omega) ?_
          refine Canon.mk [0] rfl ⟨ls.length - (i + 1), by omega, i + 1, by omega, rfl, ?_, ?_⟩
          · have := inpl_row (p := (ls.take i).flatten.map u8) (x := ls[i].map u8) (z := u8 0) (n := n) (k := 0 + (ls.take i).flatten.length) (by simp only [List.length_map]) (by simp only [List.length_map]; omega)
            simp only [List.length_map, List.length_append] at this ⊢
            rw [this, flatten_take_succ ls hi', List.map_append, List.length_append]
          · rw [hsucc, List.length_map]; rfl
        · have : i = ls.length := by omega
          subst this
          rw [List.take_length] at *
          skip
          exact NRet.mk [0] rfl ⟨by show LeA (.own 0 0 ls.flatten.length) _; rw [hn]; exact .refl _, by rw [hn, Nat.sub_self, List.replicate_zero, List.append_nil]⟩

theorem lay_own (b p : List UInt8) (hb : b.length ≤ 2 ^ 40) (hp : p.length ≤ 1048576) : ACalls Try.prog Nm.frame_Lay [bytes b, bytes p] [] (.tup [.own 0 0 (b ++ frameOf p).length, i64 0]) [.row .vrow .leaf ((b ++ frameOf p).map u8)] := by
  refine ACalls_of tab (dr_snd tab mixed) Nm.frame_Lay_h rfl (by kernel_rfl) (Nat.le_of_ble_eq_true rfl) rfl ?_
  have e : IntKind.wrap .u32 ((p.map u8).length : Int) = (p.length : Int) := by rw [List.length_map, wrap_u32]; omega
  have h1 := four_walk p.length (by omega)
  have h2 := crcSum_walk (four p.length) (by rw [four_len]; decide)
  have h3 := crcMore_walk (crcSum (four p.length)) p (by omega)
  have h4 := four_walk (crcSum (four p.length ++ p)).toNat (crcSum (four p.length ++ p)).isLt
  rw [show crcMore (crcSum (four p.length)) p = crcSum (four p.length ++ p) from crcMore_append 0 (four p.length) p] at h3
  have h5 := concatB_own [b, four p.length, four (crcSum (four p.length ++ p)).toNat, p] (by simp [four_len]; omega) (by simp)
  rw [show [b, four p.length, four (crcSum (four p.length ++ p)).toNat, p].flatten = b ++ frameOf p by simp [frameOf]] at h5
  refine ND.no (by (simp only [List.length_map, List.length_append, List.length_replicate, List.length_cons, List.length_nil, List.length_take, List.length_drop]; omega)) ?_
  refine NW.mk _ rfl ?_
  rw [(e)]
  refine NCall.call (h1) rfl rfl ?_
  refine NCall.call (h2) rfl rfl ?_
  refine NCall.call (h3) rfl rfl ?_
  refine NCall.call (h4) rfl rfl ?_
  refine NCall.atA (ACalls.frame (h5) rfl _) ?_
  exact NRet.mk [0] rfl ⟨.refl _, rfl⟩

theorem frame_nil : frameOf [] = [0, 0, 0, 0, 0x1c, 0xdf, 0x44, 0x21] := by kernel_rfl

theorem frameAwake_walk : ACalls Try.prog Nm.law04_awake [] [] (.bool true) [] := by
  refine ACalls_of tab (dr_snd tab mixed) Nm.law04_awake_h rfl (by kernel_rfl) (Nat.le_of_ble_eq_true rfl) rfl ?_
  have h1 := lay_own [] [] (by decide) (by decide)
  have h1 := h1.args (args := [.nils, .nils]) (.cons (.nils .leaf) (.cons (.nils .leaf) .nil))
  have h2 := scan_walk (frameOf [] ++ [7]) (by rw [frame_nil]; decide)
  rw [scan_frame [] [7] (by decide), scan_short (by decide)] at h2
  rw [frame_nil, List.nil_append] at h1
  rw [frame_nil] at h2
  have e0 : ([0, 0, 0, 0, 28, 223, 68, 33] : List UInt8).map u8 ++ [AV.int .u8 7] = (([0, 0, 0, 0, 28, 223, 68, 33] : List UInt8) ++ [7]).map u8 := rfl
  refine NCall.atA (ACalls.frame (h1) rfl _) ?_
  refine NMk.lst ?_
  refine NFz.own ?_
  refine NApp.roA rfl (by simp) ?_
  refine NCall.call (h2) rfl rfl ?_
  refine ND.yes (by omega) ?_
  refine ND.yes (by rfl) ?_
  refine NP.mk (by omega) ?_
  refine NG.mk _ rfl ?_
  refine ND.yes (by rfl) ?_
  refine ND.yes (by rfl) ?_
  refine ND.yes (by rfl) ?_
  exact NRet.mk [] rfl ⟨.refl _, rfl⟩
/-- Records that aren't too long for a look. -/
def shortL (l : List (List UInt8)) : Bool := decide (l.length ≤ 60) && (l.all (fun x => decide (x.length ≤ 3000)) && decide (l.flatten.length ≤ 3000))

theorem len_flatten_le {n : Nat} : ∀ {l : List (List UInt8)}, (∀ x ∈ l, x.length ≤ n) → l.flatten.length ≤ l.length * n
  | [], _ => by simp
  | a :: r, h => by
    have h1 := h a (List.mem_cons_self ..)
    have h2 := len_flatten_le (l := r) fun x hx => h x (List.mem_cons_of_mem _ hx)
    simp only [List.flatten_cons, List.length_append, List.length_cons, Nat.add_mul]; omega

theorem short4_walk (l : List (List UInt8)) (hl : l.length ≤ 2 ^ 47) : ACalls Try.prog Nm.ref04_Short [recs l] [] (.bool (shortL l)) [] := by
  refine ACalls_of tab (dr_snd tab mixed) Nm.ref04_Short_h rfl (by kernel_rfl) (Nat.le_of_ble_eq_true rfl) rfl ?_
  unfold shortL
  refine NB.dec (fun h => ?_) (fun h => ?_)
  · rw [decide_eq_false (by simp at h; omega)]
    exact NRet.mk [] rfl ⟨.refl _, rfl⟩
  · have h60 : l.length ≤ 60 := by simp at h; omega
    rw [decide_eq_true h60, Bool.true_and]
    refine NLoop.mk [] [0, 3, 4] (fun m vs H => ∃ i, i ≤ l.length ∧ m = l.length - i ∧ ((l.take i).all fun x => decide (x.length ≤ 3000)) = true ∧ H = [] ∧ vs = [recs l, i64 (l.take i).flatten.length, i64 i]) rfl ?_ ?_
    · exact Canon.mk [] rfl ⟨l.length, 0, Nat.zero_le _, rfl, rfl, rfl, rfl⟩
    · rintro m vs H ⟨i, hi, rfl, ha, rfl, rfl⟩
      refine NB.dec (fun h => ?_) (fun h => ?_)
      · have hi' : i < l.length := by simpa using h
        have hfl : (l.take i).flatten.length ≤ 60 * 3000 := by
          refine Nat.le_trans (len_flatten_le (n := 3000) fun x hx => by simpa using List.all_eq_true.1 ha x hx) ?_
          exact Nat.mul_le_mul_right 3000 (by simp; omega)
        have hsucc := flatten_succ_len l hi'
        by_cases hx : l[i].length ≤ 3000
        · refine NP.mk (by omega) ?_
          refine NG.mapN (by omega) ?_
          refine ND.no (by (simp only [List.length_map, List.length_append, List.length_replicate, List.length_cons, List.length_nil, List.length_take, List.length_drop]; omega)) ?_
          refine NP.mk (by omega) ?_
          refine NG.mapN (by omega) ?_
          refine NW.i64 (by (simp only [List.length_map, List.length_append, List.length_replicate, List.length_cons, List.length_nil, List.length_take, List.length_drop]; omega)) (by (simp only [List.length_map, List.length_append, List.length_replicate, List.length_cons, List.length_nil, List.length_take, List.length_drop]; omega)) ?_
          refine NW.i64 (by omega) (by omega) ?_
          refine Canon.mk [] rfl ⟨l.length - (i + 1), by omega, i + 1, by omega, rfl, ?_, rfl, ?_⟩
          · rw [List.take_succ_eq_append_getElem hi', List.all_append, ha]; simpa using hx
          · rw [hsucc, List.length_map]; rfl
        · refine NP.mk (by omega) ?_
          refine NG.mapN (by omega) ?_
          refine ND.yes (by (simp only [List.length_map, List.length_append, List.length_replicate, List.length_cons, List.length_nil, List.length_take, List.length_drop]; omega)) ?_
          rw [show (l.all fun x => decide (x.length ≤ 3000)) = false by
            rw [List.all_eq_false]; exact ⟨l[i], List.getElem_mem hi', by simpa using hx⟩, Bool.false_and]
          exact NRet.mk [] rfl ⟨.refl _, rfl⟩
      · have : i = l.length := by simp at h; omega
        subst this
        rw [List.take_length] at *
        rw [ha, Bool.true_and]
        by_cases hx : l.flatten.length ≤ 3000
        · rw [decide_eq_true hx]
          refine ND.yes (by omega) ?_
          exact NRet.mk [] rfl ⟨.refl _, rfl⟩
        · rw [decide_eq_false hx]
          refine ND.no (by omega) ?_
          exact NRet.mk [] rfl ⟨.refl _, rfl⟩
theorem frames_len (l : List (List UInt8)) : (frames l).length = 8 * l.length + l.flatten.length := by
  induction l with
  | nil => rfl
  | cons p r ih => simp only [frames, List.map_cons, List.flatten_cons, List.length_append, frameOf_len, List.length_cons] at ih ⊢; omega

theorem laid_walk (l : List (List UInt8)) (hl : l.length ≤ 60) (hx : ∀ x ∈ l, x.length ≤ 3000) : ACalls Try.prog Nm.law04_laid [recs l] [] (.tup [.own 0 0 (frames l).length, .bool true]) [.row .vrow .leaf ((frames l).map u8)] := by
  refine ACalls_of tab (dr_snd tab mixed) Nm.law04_laid_h rfl (by kernel_rfl) (Nat.le_of_ble_eq_true rfl) rfl ?_
  have hfl : l.flatten.length ≤ 60 * 3000 := Nat.le_trans (len_flatten_le hx) (Nat.mul_le_mul_right 3000 hl)
  refine NLoop.mk [(4, .leaf)] [0, 4, 5] (fun m vs H => ∃ i, i ≤ l.length ∧ m = l.length - i ∧ H = [.row .vrow .leaf ((frames (l.take i)).map u8)] ∧ vs = [recs l, .own 0 0 (frames (l.take i)).length, i64 i]) rfl ?_ ?_
  · exact Canon.mk [0] rfl ⟨l.length, 0, Nat.zero_le _, rfl, rfl, rfl⟩
  · rintro m vs H ⟨i, hi, rfl, rfl, rfl⟩
    refine NB.dec (fun h => ?_) (fun h => ?_)
    · have hi' : i < l.length := by simpa using h
      have hf := frames_len (l.take i)
      have hle := flatten_take_le l i
      have hp := hx _ (List.getElem_mem hi')
      have hlt : (l.take i).length ≤ 60 := by simp; omega
      have h1 := lay_own (frames (l.take i)) l[i] (by omega) (by omega)
      have hs : frames (l.take (i + 1)) = frames (l.take i) ++ frameOf l[i] := by rw [List.take_succ_eq_append_getElem hi', frames_snoc]
      rw [← hs] at h1
      refine NP.mk (by omega) ?_
      refine NG.mapN (by omega) ?_
      refine NCall.atA (ACalls.lendOwn (h1) _ (.cons (.own trivial rfl (by simp) (by simp) (by simp [List.take_of_length_le])) (.cons (.same _) .nil)) rfl rfl (flatB)) ?_
      refine ND.yes (by omega) ?_
      refine NW.i64 (by omega) (by omega) ?_
      exact Canon.mk [1] rfl ⟨l.length - (i + 1), by omega, i + 1, by omega, rfl, rfl, rfl⟩
    · have : i = l.length := by simp at h; omega
      subst this
      rw [List.take_length] at *
      skip
      exact NRet.mk [0] rfl ⟨.refl _, rfl⟩

/-- Two appends' lengths. -/
theorem frameLays_walk (b0 p0 : List UInt8) (hb : b0.length ≤ reachBytes) (hp : p0.length ≤ reachBytes) : ACalls Try.prog Nm.law04_FrameLays [bytes b0, bytes p0] [] (.bool true) [] := by
  have hb := reach_lt hb
  have hp := reach_lt hp
  refine ACalls_of tab (dr_snd tab mixed) Nm.law04_FrameLays_h rfl (by kernel_rfl) (Nat.le_of_ble_eq_true rfl) rfl ?_
  have e1 : (b0.map u8).take (Int.toNat (min ((b0.map u8).length : Int) 2000)) = (b0.take 2000).map u8 := cut_map u8 b0 2000
  have e2 : (p0.map u8).take (Int.toNat (min ((p0.map u8).length : Int) 2000)) = (p0.take 2000).map u8 := cut_map u8 p0 2000
  refine NCall.call (frameAwake_walk) rfl rfl ?_
  refine NP.mk (by kernel_rfl) ?_
  apply NDr.pure
  · exact ⟨rfl, rfl⟩
  apply NDr.pure
  · exact ⟨rfl, rfl⟩
  apply NDr.pure
  · exact ⟨rfl, rfl⟩
  apply NDr.pure
  · exact ⟨rfl, rfl⟩
  apply NDr.pure
  · refine NP.mk (by omega) ?_
    exact ⟨rfl, rfl⟩
  apply NDr.pure
  · exact ⟨rfl, rfl⟩
  apply NDr.pure
  · exact ⟨rfl, rfl⟩
  apply NDr.pure
  · exact ⟨rfl, rfl⟩
  apply NDr.pure
  · exact ⟨rfl, rfl⟩
  apply NDr.pure
  · refine NP.mk (by omega) ?_
    exact ⟨rfl, rfl⟩
  apply NDr.pure
  · exact ⟨rfl, rfl⟩
  apply NDr.pure
  · exact ⟨rfl, rfl⟩
  refine NP.mk (by kernel_rfl) ?_
  rw [e1, e2]
  have hb3 : (b0.take 2000).length ≤ 2000 := by simp; omega
  have hp3 : (p0.take 2000).length ≤ 2000 := by simp; omega
  clear e1 e2 hb hp
  generalize b0.take 2000 = b at *
  generalize p0.take 2000 = p at *
  have hfl := frameOf_len p
  have h1 := copyB_walk b (by omega)
  have h2 := lay_walk b p (by omega) (by omega)
  have h3 := refFrame_walk p (by omega)
  have h4 := sameB_walk (b ++ frameOf p) (b ++ frameOf p) (by rw [List.length_append, frameOf_len]; omega)
  have h5 := sameB_walk b b (by omega)
  rw [decide_eq_true rfl] at h4 h5
  have e3 : ∀ X : List AV, List.take (b.length : Int).toNat (b.map u8 ++ X) = b.map u8 := fun X => by rw [Int.toNat_natCast, List.take_left' (by simp)]
  refine NCall.atA (ACalls.frame (h1) rfl _) ?_
  refine NMk.lst ?_
  refine NFz.own ?_
  refine NApp.endA (by simp) (by simp; omega) ?_
  refine NP.mk (by (simp only [List.length_map, List.length_append, List.length_replicate, List.length_cons, List.length_nil, List.length_take, List.length_drop]; omega)) ?_
  refine NCall.eq (by simp only [List.length_map] <;> exact rfl) ?_
  refine NCall.roA [1] ?_
  rw [(e3 _)]
  refine NCall.call (h2) rfl rfl ?_
  refine ND.yes (by omega) ?_
  refine NCall.atA (ACalls.frame (h1) rfl _) ?_
  refine NCall.call (h3) rfl rfl ?_
  refine NFz.own ?_
  refine NApp.endA (by simp) (by simp; omega) ?_
  rw [(mapApp _ _ _)]
  refine NCall.eq (by simp only [List.length_map] <;> exact rfl) ?_
  refine NCall.lend (h4) (.cons (.same _) (.cons (.own trivial rfl (by simp) (by simp) (by simp [List.take_of_length_le])) .nil)) rfl rfl ?_
  refine NP.mk (by (simp only [List.length_map, List.length_append, List.length_replicate, List.length_cons, List.length_nil, List.length_take, List.length_drop]; omega)) ?_
  rw [(td0 _)]
  refine NCall.eq (by simp only [List.length_map] <;> exact rfl) ?_
  rw [(e3 _)]
  refine NCall.call (h5) rfl rfl ?_
  refine NP.mk (by omega) ?_
  rw [(td0 _)]
  refine NG.snoc (by simp) ?_
  refine ND.yes (by omega) ?_
  exact NRet.mk [] rfl ⟨.refl _, rfl⟩
theorem frameScans_walk (b0 : List UInt8) (hb : b0.length ≤ reachBytes) : ACalls Try.prog Nm.law04_FrameScans [bytes b0] [] (.bool true) [] := by
  have hb := reach_lt hb
  refine ACalls_of tab (dr_snd tab mixed) Nm.law04_FrameScans_h rfl (by kernel_rfl) (Nat.le_of_ble_eq_true rfl) rfl ?_
  have e1 : (b0.map u8).take (Int.toNat (min ((b0.map u8).length : Int) 4000)) = (b0.take 4000).map u8 := cut_map u8 b0 4000
  refine NCall.call (frameAwake_walk) rfl rfl ?_
  refine NP.mk (by omega) ?_
  rw [e1]
  have hb3 : (b0.take 4000).length ≤ 4000 := by simp; omega
  clear e1 hb
  generalize b0.take 4000 = b at *
  have h1 := scan_walk b (by omega)
  have h2 := refScan_walk b (by omega)
  obtain ⟨b1, b2⟩ := scan_bound _ b (Nat.le_refl _)
  have h3 := sameL_walk (scan b).1 (scan b).1 (by omega) (fun x hx => by have := b2 x hx; omega)
  rw [decide_eq_true rfl] at h3
  refine NCall.call (h1) rfl rfl ?_
  refine NCall.call (h2) rfl rfl ?_
  refine ND.yes (by omega) ?_
  refine NCall.call (h3) rfl rfl ?_
  exact NRet.mk [] rfl ⟨.refl _, rfl⟩

theorem frameJoined_walk (l : List (List UInt8)) (b : List UInt8) (hl : l.length ≤ 2 ^ 47) (hb : b.length ≤ reachBytes) : ACalls Try.prog Nm.law04_FrameJoined [recs l, bytes b] [] (.bool true) [] := by
  have hb := reach_lt hb
  refine ACalls_of tab (dr_snd tab mixed) Nm.law04_FrameJoined_h rfl (by kernel_rfl) (Nat.le_of_ble_eq_true rfl) rfl ?_
  cases hs : shortL l with
  | false =>
    have h1 := short4_walk l hl
    rw [hs] at h1
    refine NCall.call (frameAwake_walk) rfl rfl ?_
    refine NCall.call (h1) rfl rfl ?_
    exact NRet.mk [] rfl ⟨.refl _, rfl⟩
  | true =>
    have h1 := short4_walk l hl
    rw [hs] at h1
    simp only [shortL, Bool.and_eq_true, decide_eq_true_eq, List.all_eq_true] at hs
    obtain ⟨s1, s2, s3⟩ := hs
    by_cases hb3 : b.length ≤ 3000
    · have h2 := laid_walk l s1 s2
      have h3 := scan_walk b (by omega)
      have hfl := frames_len l
      have h4 := scan_walk (frames l ++ b) (by simp; omega)
      rw [scan_frames l b (fun p hp => by have := s2 p hp; omega)] at h4
      obtain ⟨b1, b2⟩ := scan_bound _ b (Nat.le_refl _)
      have hle := scan_le _ b (Nat.le_refl _)
      have h5 := sameL_walk (l ++ (scan b).1) (l ++ (scan b).1) (by simp; omega) (fun x hx => by
        rcases List.mem_append.1 hx with hx | hx
        · have := s2 x hx; omega
        · have := b2 x hx; omega)
      rw [decide_eq_true rfl] at h5
      refine NCall.call (frameAwake_walk) rfl rfl ?_
      refine NCall.call (h1) rfl rfl ?_
      refine ND.no (by (simp only [List.length_map, List.length_append, List.length_replicate, List.length_cons, List.length_nil, List.length_take, List.length_drop]; omega)) ?_
      refine NCall.atA (ACalls.frame (h2) rfl _) ?_
      refine NCall.call (h3) rfl rfl ?_
      refine NFz.own ?_
      refine NApp.roA (by simp) (by simp; omega) ?_
      rw [(mapApp _ _ _)]
      refine NCall.call (h4) rfl rfl ?_
      refine NW.i64 (by (simp only [List.length_map, List.length_append, List.length_replicate, List.length_cons, List.length_nil, List.length_take, List.length_drop]; omega)) (by (simp only [List.length_map, List.length_append, List.length_replicate, List.length_cons, List.length_nil, List.length_take, List.length_drop]; omega)) ?_
      refine ND.yes (by (simp only [List.length_map, List.length_append, List.length_replicate, List.length_cons, List.length_nil, List.length_take, List.length_drop]; omega)) ?_
      refine NFz.own ?_
      refine NApp.endA rfl (by simp; omega) ?_
      refine NFz.own ?_
      refine NApp.endA rfl (by simp; omega) ?_
      rw [(mapApp _ _ _)]
      refine NCall.eq (by simp only [List.length_map] <;> exact rfl) ?_
      refine NCall.lend (h5) (.cons (.same _) (.cons (.own trivial rfl (by simp) (by simp) (by simp [List.take_of_length_le])) .nil)) rfl rfl ?_
      exact NRet.mk [] rfl ⟨.refl _, rfl⟩
    · refine NCall.call (frameAwake_walk) rfl rfl ?_
      refine NCall.call (h1) rfl rfl ?_
      refine ND.yes (by (simp only [List.length_map, List.length_append, List.length_replicate, List.length_cons, List.length_nil, List.length_take, List.length_drop]; omega)) ?_
      exact NRet.mk [] rfl ⟨.refl _, rfl⟩
theorem frameLong_walk (m : Bool) : ACalls Try.prog Nm.law04_FrameLong [.bool m] [] (.bool true) [] := by
  refine ACalls_of tab (dr_snd tab mixed) Nm.law04_FrameLong_h rfl (by kernel_rfl) (Nat.le_of_ble_eq_true rfl) rfl ?_
  obtain ⟨n, hn⟩ : ∃ n : Nat, n = 1048576 := ⟨_, rfl⟩
  have hz : ∀ k : Nat, List.replicate k (AV.int .u8 0) = (List.replicate k (0 : UInt8)).map u8 := fun k => by rw [List.map_replicate]; rfl
  cases m with
  | false =>
    have h2 := lay_walk [] (List.replicate n 0) (Nat.zero_le _) (by rw [List.length_replicate, hn]; exact Nat.le_refl _)
    rw [List.nil_append] at h2
    have h2 := h2.args (args := [.nils, bytes (List.replicate n 0)]) (.cons (.nils .leaf) (.cons (.refl _) .nil))
    have e : List.replicate (Int.toNat 1048576) (AV.int .u8 0) = (List.replicate n (0 : UInt8)).map u8 := by rw [← hz, hn]; rfl
    have hp : (List.replicate n (0 : UInt8)).length = n := List.length_replicate
    have h3 := scan_frame (List.replicate n 0) [] (by rw [hp, hn]; exact Nat.le_refl _)
    have hfl := frameOf_len (List.replicate n 0)
    generalize List.replicate n (0 : UInt8) = p at *
    rw [List.append_nil, scan_short (l := []) (by decide)] at h3
    have h4 := scan_walk (frameOf p) (by omega)
    rw [h3] at h4
    refine NCall.call (frameAwake_walk) rfl rfl ?_
    refine NP.mk (by omega) ?_
    refine NMk.lst ?_
    rw [e]
    refine NCall.call (h2) rfl rfl ?_
    refine NCall.call (h4) rfl rfl ?_
    refine ND.yes (by omega) ?_
    refine NW.i64 (by omega) (by omega) ?_
    refine ND.yes (by (simp only [List.length_map, List.length_append, List.length_replicate, List.length_cons, List.length_nil, List.length_take, List.length_drop]; omega)) ?_
    refine ND.yes (by rfl) ?_
    refine ND.yes (by (simp only [List.length_map, List.length_append, List.length_replicate, List.length_cons, List.length_nil, List.length_take, List.length_drop]; omega)) ?_
    refine NP.mk (by omega) ?_
    refine NG.mapN (by (simp only [List.length_map, List.length_append, List.length_replicate, List.length_cons, List.length_nil, List.length_take, List.length_drop]; omega)) ?_
    refine ND.yes (by (simp; omega)) ?_
    exact NRet.mk [] rfl ⟨.refl _, rfl⟩
  | true =>
    have h2 := lay_bad [] (List.replicate (n + 1) 0) (by rw [List.length_replicate]; omega)
    have h2 := h2.args (args := [.nils, bytes (List.replicate (n + 1) 0)]) (.cons (.nils .leaf) (.cons (.refl _) .nil))
    have e : List.replicate (Int.toNat (1048576 + 1)) (AV.int .u8 0) = (List.replicate (n + 1) (0 : UInt8)).map u8 := by rw [← hz, hn]; rfl
    generalize List.replicate (n + 1) (0 : UInt8) = p at *
    refine NCall.call (frameAwake_walk) rfl rfl ?_
    refine NW.i64 (by omega) (by omega) ?_
    refine NP.mk (by omega) ?_
    refine NMk.lst ?_
    rw [e]
    refine NCall.call (h2) rfl rfl ?_
    refine ND.yes (by omega) ?_
    refine ND.yes (by omega) ?_
    exact NRet.mk [] rfl ⟨.refl _, rfl⟩
end Go.Bv
