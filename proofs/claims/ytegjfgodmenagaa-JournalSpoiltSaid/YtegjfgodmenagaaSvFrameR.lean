/- Part of the lift: an abstract walk of the program's code, proved sound, and what it shows of this program. -/
import Derived.Test.YtegjfgodmenagaaSvFrame
namespace Go.Bv
set_option linter.unusedSimpArgs false
set_option linter.unusedVariables false
set_option maxHeartbeats 4000000
open Go Go.Proofs

theorem four_num4 {l : List UInt8} (h : 4 ≤ l.length) : four (num4 l) = l.take 4 := by
  match l, h with
  | a :: b :: c :: d :: r, _ =>
    have ha := a.toNat_lt
    have hb := b.toNat_lt
    have hc := c.toNat_lt
    have hd := d.toNat_lt
    simp only [four, num4, List.getD_cons_zero, List.getD_cons_succ, List.take_succ_cons, List.take_zero, List.cons.injEq, and_true]
    refine ⟨?_, ?_, ?_, ?_⟩ <;> (apply UInt8.toNat_inj.1; rw [UInt8.toNat_ofNat']; omega)
theorem four_inj {m n : Nat} (hm : m < 2 ^ 32) (hn : n < 2 ^ 32) (h : four m = four n) : m = n := by
  rw [← num4_four m hm [], h, num4_four n hn []]

theorem oneOf_iff {l : List UInt8} (h8 : 8 ≤ l.length) (hb : ¬ 1048576 < num4 l) (hc : 8 + num4 l ≤ l.length) :
    oneOf l = if frameOf ((l.drop 8).take (num4 l)) = l.take (8 + num4 l) then some (8 + num4 l) else none := by
  have hn4 := num4_lt (l.drop 4)
  have hpl : ((l.drop 8).take (num4 l)).length = num4 l := by simp; omega
  unfold oneOf
  rw [if_neg (by omega), if_neg (by omega)]
  congr 1
  unfold frameOf
  rw [hpl, four_num4 (by omega)]
  generalize crcSum (l.take 4 ++ (l.drop 8).take (num4 l)) = s
  have e : l.take (8 + num4 l) = l.take 4 ++ (l.drop 4).take 4 ++ (l.drop 8).take (num4 l) := by
    rw [← List.take_add, ← List.take_add]
  rw [e, ← four_num4 (l := l.drop 4) (by simp; omega)]
  apply propext
  constructor
  · intro h
    rw [h, BitVec.toNat_ofNat, Nat.mod_eq_of_lt hn4]
  · intro h
    have h := List.append_cancel_left (List.append_cancel_right h)
    have := four_inj s.isLt hn4 h
    apply BitVec.eq_of_toNat_eq
    rw [BitVec.toNat_ofNat, Nat.mod_eq_of_lt hn4, this]

theorem tmod_n (n k : Nat) : (n : Int).tmod (k : Int) = ((n % k : Nat) : Int) := by simp [Int.tmod]
theorem tdiv_n (n k : Nat) : (n : Int).tdiv (k : Int) = ((n / k : Nat) : Int) := by simp [Int.tdiv]
theorem ofNat_mod (n : Nat) : UInt8.ofNat (n % 256) = UInt8.ofNat n := by
  apply UInt8.toNat_inj.1; rw [UInt8.toNat_ofNat', UInt8.toNat_ofNat']; omega

theorem refFrame_walk (p : List UInt8) (hp : p.length ≤ 2 ^ 31) : ACalls Try.prog Nm.ref04_Frame [bytes p] [] (bytes (frameOf p)) [] := by
  refine ACalls_of tab (dr_snd tab mixed) Nm.ref04_Frame_h rfl (by kernel_rfl) (Nat.le_of_ble_eq_true rfl) rfl ?_
  have e0 : IntKind.wrap .u8 (((p.map u8).length : Int).tmod 256) = ((UInt8.ofNat p.length).toNat : Int) := by
    rw [List.length_map, show (256 : Int) = ((256 : Nat) : Int) from rfl, tmod_n, wrap_byte, ofNat_mod]
  have e1 : IntKind.wrap .u8 ((((p.map u8).length : Int).tdiv 256).tmod 256) = ((UInt8.ofNat (p.length / 256)).toNat : Int) := by
    rw [List.length_map, show (256 : Int) = ((256 : Nat) : Int) from rfl, tdiv_n, tmod_n, wrap_byte, ofNat_mod]
  have e2 : IntKind.wrap .u8 ((((p.map u8).length : Int).tdiv 65536).tmod 256) = ((UInt8.ofNat (p.length / 65536)).toNat : Int) := by
    rw [List.length_map, show (256 : Int) = ((256 : Nat) : Int) from rfl, show (65536 : Int) = ((65536 : Nat) : Int) from rfl, tdiv_n, tmod_n, wrap_byte, ofNat_mod]
  have e3 : IntKind.wrap .u8 (((p.map u8).length : Int).tdiv 16777216) = ((UInt8.ofNat (p.length / 16777216)).toNat : Int) := by
    rw [List.length_map, show (16777216 : Int) = ((16777216 : Nat) : Int) from rfl, tdiv_n, wrap_byte]
  have hs := refSum_walk (four p.length ++ p) (by simp [four_len]; omega)
  rw [sums_same] at hs
  refine NP.mk (by omega) ?_
  refine NW.mk _ rfl ?_
  rw [(e0)]
  refine NP.mk (by omega) ?_
  refine NW.i64 (by (simp; omega)) (by (simp; omega)) ?_
  refine NP.mk (by omega) ?_
  refine NW.mk _ rfl ?_
  rw [(e1)]
  refine NP.mk (by omega) ?_
  refine NW.i64 (by (simp; omega)) (by (simp; omega)) ?_
  refine NP.mk (by omega) ?_
  refine NW.mk _ rfl ?_
  rw [(e2)]
  refine NP.mk (by omega) ?_
  refine NW.i64 (by (simp; omega)) (by (simp; omega)) ?_
  refine NW.mk _ rfl ?_
  rw [(e3)]
  refine NMk.lst ?_
  refine NFz.own ?_
  refine NApp.endA rfl (by simp) ?_
  refine NFz.own ?_
  refine NApp.endA rfl (by simp; omega) ?_
  refine NCall.lend hs (.cons (.own trivial rfl (by simp) (by simp) ?_) .nil) rfl rfl ?_
  · rw [List.drop_zero, List.take_of_length_le (by simp)]; rfl
  have s0 := wrap_byte (crcSum (four p.length ++ p)).toNat
  have s1 := sh_byte (crcSum (four p.length ++ p)).toNat 8 8 rfl
  have s2 := sh_byte (crcSum (four p.length ++ p)).toNat 16 16 rfl
  have s3 := sh_byte (crcSum (four p.length ++ p)).toNat 24 24 rfl
  refine NFz.own ?_
  refine NApp.endA rfl (by simp) ?_
  refine NW.mk _ rfl ?_
  rw [(s0)]
  refine NP.mk (by omega) ?_
  refine NW.mk _ rfl ?_
  rw [(s1)]
  refine NP.mk (by omega) ?_
  refine NW.mk _ rfl ?_
  rw [(s2)]
  refine NP.mk (by omega) ?_
  refine NW.mk _ rfl ?_
  rw [(s3)]
  refine NMk.lst ?_
  refine NFz.own ?_
  refine NApp.endA rfl (by simp) ?_
  refine NFz.own ?_
  refine NApp.endA rfl (by simp; omega) ?_
  refine NRet.mk [] rfl (NFrz.mk ((frameOf p).map u8) (by simp) ?_ ⟨.refl _, rfl⟩)
  rw [List.drop_zero, List.take_of_length_le (by simp)]
  rfl

theorem sameL_walk (a b : List (List UInt8)) (ha : a.length ≤ 2 ^ 40) (hx : ∀ x ∈ a, x.length ≤ 2 ^ 40) : ACalls Try.prog Nm.ref04_Same [recs a, recs b] [] (.bool (decide (a = b))) [] := by
  refine ACalls_of tab (dr_snd tab mixed) Nm.ref04_Same_h rfl (by kernel_rfl) (Nat.le_of_ble_eq_true rfl) rfl ?_
  refine NB.dec (fun h => ?_) (fun h => ?_)
  · have hab : a.length = b.length := by simp only [List.length_map] at h; omega
    refine NLoop.mk [] [0, 1, 5] (fun m vs H => ∃ i, i ≤ a.length ∧ m = a.length - i ∧ a.take i = b.take i ∧ H = [] ∧ vs = [recs a, recs b, i64 i]) rfl ?_ ?_
    · exact Canon.mk [] rfl ⟨a.length, 0, Nat.zero_le _, rfl, rfl, rfl, rfl⟩
    · rintro m vs H ⟨i, hi, rfl, ht, rfl, rfl⟩
      refine NB.dec (fun h => ?_) (fun h => ?_)
      · have hi' : i < a.length := by simpa using h
        have hib : i < b.length := by omega
        have hxi := hx _ (List.getElem_mem hi')
        refine NP.mk (by kernel_rfl) ?_
        apply NDr.pure
        · exact ⟨rfl, rfl⟩
        apply NDr.pure
        · exact ⟨rfl, rfl⟩
        apply NDr.pure
        · refine NP.mk (by omega) ?_
          refine NG.mapN (by omega) ?_
          exact ⟨rfl, rfl⟩
        apply NDr.pure
        · exact ⟨rfl, rfl⟩
        apply NDr.pure
        · exact ⟨rfl, rfl⟩
        apply NDr.pure
        · exact ⟨rfl, rfl⟩
        apply NDr.pure
        · refine NP.mk (by omega) ?_
          refine NG.mapN (by omega) ?_
          exact ⟨rfl, rfl⟩
        apply NDr.pure
        · exact ⟨rfl, rfl⟩
        apply NDr.pure
        · refine NCall.call (sameB_walk a[i] b[i] (by omega)) rfl rfl ?_
          exact ⟨rfl, rfl⟩
        apply NDr.pure
        · exact NB.det0'
        refine NP.mk (by kernel_rfl) ?_
        refine NB.mk (fun hk1 => ?_) (fun hk1 => ?_)
        · have hne : a ≠ b := fun e => by subst e; simp at hk1
          rw [decide_eq_false hne]
          exact NRet.mk [] rfl ⟨.refl _, rfl⟩
        · have hne : a[i] = b[i] := by simpa using hk1
          refine NW.i64 (by omega) (by omega) ?_
          refine Canon.mk [] rfl ⟨a.length - (i + 1), by omega, i + 1, by omega, rfl, ?_, rfl, rfl⟩
          rw [List.take_succ_eq_append_getElem hi', List.take_succ_eq_append_getElem hib, ht, hne]
      · have : i = a.length := by simp only [List.length_map] at h; omega
        subst this
        rw [hab, List.take_length, ← hab, List.take_length] at ht
        rw [decide_eq_true ht]
        exact NRet.mk [] rfl ⟨.refl _, rfl⟩
  · have hab : a ≠ b := fun e => h (by subst e; rfl)
    rw [decide_eq_false hab]
    exact NRet.mk [] rfl ⟨.refl _, rfl⟩


theorem num4_drop (l : List UInt8) {k : Nat} (h : k + 4 ≤ l.length) : ((l[k].toNat : Int) + 256 * (l[k + 1].toNat : Int) + 65536 * (l[k + 2].toNat : Int) + 16777216 * (l[k + 3].toNat : Int)) = ((num4 (l.drop k) : Nat) : Int) := by
  unfold num4
  simp only [List.getD_eq_getElem?_getD, List.getElem?_drop, Nat.add_zero, List.getElem?_eq_getElem (show k < l.length by omega), List.getElem?_eq_getElem (show k + 1 < l.length by omega), List.getElem?_eq_getElem (show k + 2 < l.length by omega), List.getElem?_eq_getElem (show k + 3 < l.length by omega), Option.getD_some]
  omega

theorem refScan_walk (l : List UInt8) (hl : l.length ≤ 2 ^ 39) : ACalls Try.prog Nm.ref04_Scan [bytes l] [] (.tup [recs (scan l).1, i64 (scan l).2]) [] := by
  refine ACalls_of tab (dr_snd tab mixed) Nm.ref04_Scan_h rfl (by kernel_rfl) (Nat.le_of_ble_eq_true rfl) rfl ?_
  refine NLoop.mk [(4, .leaf)] [0, 4, 5] (fun m vs H => ∃ (k : Nat) (r : List (List UInt8)), k ≤ l.length ∧ m = l.length - k ∧ r.length ≤ k ∧ scan l = (r ++ (scan (l.drop k)).1, k + (scan (l.drop k)).2) ∧ H = [.row .vrow .leaf (r.map bytes)] ∧ vs = [bytes l, .own 0 0 r.length, i64 k]) rfl ?_ ?_
  · exact Canon.mk [0] rfl ⟨l.length, 0, [], Nat.zero_le _, rfl, Nat.le_refl _, by rw [List.drop_zero, List.nil_append, Nat.zero_add], rfl, rfl⟩
  · rintro m vs H ⟨k, r, hk, rfl, hr, hs, rfl, rfl⟩
    have nostop : oneOf (l.drop k) = none → scan l = (r, k) := fun ho => by
      rw [scan_none ho, List.append_nil, Nat.add_zero] at hs; exact hs
    by_cases h8 : k + 8 ≤ l.length
    · have hnum := num4_drop l (k := k) (by omega)
      have x0 := l[k].toNat_lt
      have x1 := l[k + 1].toNat_lt
      have x2 := l[k + 2].toNat_lt
      have x3 := l[k + 3].toNat_lt
      have i1 : ((k : Int) + 1).toNat = k + 1 := by omega
      have i2 : ((k : Int) + 2).toNat = k + 2 := by omega
      have i3 : ((k : Int) + 3).toNat = k + 3 := by omega
      have hn := num4_lt (l.drop k)
      have hld : (l.drop k).length = l.length - k := List.length_drop
      by_cases hb : 1048576 < num4 (l.drop k) ∨ (l.drop k).length - 8 < num4 (l.drop k)
      · have hs := nostop (by unfold oneOf; rw [if_neg (by omega), if_pos hb])
        rw [hs]
        generalize num4 (l.drop k) = n at *
        by_cases hb1 : 1048576 < n
        · refine NW.i64 (by omega) (by omega) ?_
          refine ND.yes (by (simp only [List.length_map, List.length_append, List.length_replicate, List.length_cons, List.length_nil, List.length_take, List.length_drop]; omega)) ?_
          refine NP.mk (by kernel_rfl) ?_
          apply NDr.pure
          · exact ⟨rfl, rfl⟩
          apply NDr.pure
          · exact ⟨rfl, rfl⟩
          apply NDr.pure
          · refine NP.mk (by omega) ?_
            refine NG.mapN (by omega) ?_
            exact ⟨rfl, rfl⟩
          apply NDr.pure
          · exact ⟨rfl, rfl⟩
          apply NDr.pure
          · refine NW.i64 (by omega) (by omega) ?_
            exact ⟨rfl, rfl⟩
          apply NDr.pure
          · exact ⟨rfl, rfl⟩
          apply NDr.pure
          · exact ⟨rfl, rfl⟩
          apply NDr.pure
          · refine NW.i64 (by omega) (by omega) ?_
            exact ⟨rfl, rfl⟩
          apply NDr.pure
          · refine NP.mk (by omega) ?_
            rw [(i1)]
            refine NG.mapN (by omega) ?_
            exact ⟨rfl, rfl⟩
          apply NDr.pure
          · exact ⟨rfl, rfl⟩
          apply NDr.pure
          · refine NW.i64 (by omega) (by omega) ?_
            exact ⟨rfl, rfl⟩
          apply NDr.pure
          · refine NW.i64 (by omega) (by omega) ?_
            exact ⟨rfl, rfl⟩
          apply NDr.pure
          · refine NW.i64 (by omega) (by omega) ?_
            exact ⟨rfl, rfl⟩
          apply NDr.pure
          · exact ⟨rfl, rfl⟩
          apply NDr.pure
          · exact ⟨rfl, rfl⟩
          apply NDr.pure
          · refine NW.i64 (by omega) (by omega) ?_
            exact ⟨rfl, rfl⟩
          apply NDr.pure
          · refine NP.mk (by omega) ?_
            rw [(i2)]
            refine NG.mapN (by omega) ?_
            exact ⟨rfl, rfl⟩
          apply NDr.pure
          · exact ⟨rfl, rfl⟩
          apply NDr.pure
          · refine NW.i64 (by omega) (by omega) ?_
            exact ⟨rfl, rfl⟩
          apply NDr.pure
          · refine NW.i64 (by omega) (by omega) ?_
            exact ⟨rfl, rfl⟩
          apply NDr.pure
          · refine NW.i64 (by omega) (by omega) ?_
            exact ⟨rfl, rfl⟩
          apply NDr.pure
          · exact ⟨rfl, rfl⟩
          apply NDr.pure
          · exact ⟨rfl, rfl⟩
          apply NDr.pure
          · refine NW.i64 (by omega) (by omega) ?_
            exact ⟨rfl, rfl⟩
          apply NDr.pure
          · refine NP.mk (by omega) ?_
            rw [(i3)]
            refine NG.mapN (by omega) ?_
            exact ⟨rfl, rfl⟩
          apply NDr.pure
          · exact ⟨rfl, rfl⟩
          apply NDr.pure
          · refine NW.i64 (by omega) (by omega) ?_
            exact ⟨rfl, rfl⟩
          apply NDr.pure
          · refine NW.i64 (by omega) (by omega) ?_
            exact ⟨rfl, rfl⟩
          apply NDr.pure
          · refine NW.i64 (by omega) (by omega) ?_
            rw [(hnum)]
            exact ⟨rfl, rfl⟩
          apply NDr.pure
          · exact ⟨rfl, rfl⟩
          refine NP.mk (by kernel_rfl) ?_
          refine ND.yes (by omega) ?_
          exact NRet.mk [] rfl (NFrz.mk (r.map bytes) (by simp) (by rw [List.drop_zero, List.take_of_length_le (by simp)]) ⟨.refl _, rfl⟩)
        · refine NW.i64 (by omega) (by omega) ?_
          refine ND.yes (by (simp only [List.length_map, List.length_append, List.length_replicate, List.length_cons, List.length_nil, List.length_take, List.length_drop]; omega)) ?_
          refine NP.mk (by kernel_rfl) ?_
          apply NDr.pure
          · exact ⟨rfl, rfl⟩
          apply NDr.pure
          · exact ⟨rfl, rfl⟩
          apply NDr.pure
          · refine NP.mk (by omega) ?_
            refine NG.mapN (by omega) ?_
            exact ⟨rfl, rfl⟩
          apply NDr.pure
          · exact ⟨rfl, rfl⟩
          apply NDr.pure
          · refine NW.i64 (by omega) (by omega) ?_
            exact ⟨rfl, rfl⟩
          apply NDr.pure
          · exact ⟨rfl, rfl⟩
          apply NDr.pure
          · exact ⟨rfl, rfl⟩
          apply NDr.pure
          · refine NW.i64 (by omega) (by omega) ?_
            exact ⟨rfl, rfl⟩
          apply NDr.pure
          · refine NP.mk (by omega) ?_
            rw [(i1)]
            refine NG.mapN (by omega) ?_
            exact ⟨rfl, rfl⟩
          apply NDr.pure
          · exact ⟨rfl, rfl⟩
          apply NDr.pure
          · refine NW.i64 (by omega) (by omega) ?_
            exact ⟨rfl, rfl⟩
          apply NDr.pure
          · refine NW.i64 (by omega) (by omega) ?_
            exact ⟨rfl, rfl⟩
          apply NDr.pure
          · refine NW.i64 (by omega) (by omega) ?_
            exact ⟨rfl, rfl⟩
          apply NDr.pure
          · exact ⟨rfl, rfl⟩
          apply NDr.pure
          · exact ⟨rfl, rfl⟩
          apply NDr.pure
          · refine NW.i64 (by omega) (by omega) ?_
            exact ⟨rfl, rfl⟩
          apply NDr.pure
          · refine NP.mk (by omega) ?_
            rw [(i2)]
            refine NG.mapN (by omega) ?_
            exact ⟨rfl, rfl⟩
          apply NDr.pure
          · exact ⟨rfl, rfl⟩
          apply NDr.pure
          · refine NW.i64 (by omega) (by omega) ?_
            exact ⟨rfl, rfl⟩
          apply NDr.pure
          · refine NW.i64 (by omega) (by omega) ?_
            exact ⟨rfl, rfl⟩
          apply NDr.pure
          · refine NW.i64 (by omega) (by omega) ?_
            exact ⟨rfl, rfl⟩
          apply NDr.pure
          · exact ⟨rfl, rfl⟩
          apply NDr.pure
          · exact ⟨rfl, rfl⟩
          apply NDr.pure
          · refine NW.i64 (by omega) (by omega) ?_
            exact ⟨rfl, rfl⟩
          apply NDr.pure
          · refine NP.mk (by omega) ?_
            rw [(i3)]
            refine NG.mapN (by omega) ?_
            exact ⟨rfl, rfl⟩
          apply NDr.pure
          · exact ⟨rfl, rfl⟩
          apply NDr.pure
          · refine NW.i64 (by omega) (by omega) ?_
            exact ⟨rfl, rfl⟩
          apply NDr.pure
          · refine NW.i64 (by omega) (by omega) ?_
            exact ⟨rfl, rfl⟩
          apply NDr.pure
          · refine NW.i64 (by omega) (by omega) ?_
            rw [(hnum)]
            exact ⟨rfl, rfl⟩
          apply NDr.pure
          · exact ⟨rfl, rfl⟩
          refine NP.mk (by kernel_rfl) ?_
          refine ND.no (by omega) ?_
          refine NW.i64 (by omega) (by omega) ?_
          refine NW.i64 (by omega) (by omega) ?_
          refine ND.yes (by (simp only [List.length_map, List.length_append, List.length_replicate, List.length_cons, List.length_nil, List.length_take, List.length_drop]; omega)) ?_
          exact NRet.mk [] rfl (NFrz.mk (r.map bytes) (by simp) (by rw [List.drop_zero, List.take_of_length_le (by simp)]) ⟨.refl _, rfl⟩)
      · have ho := oneOf_iff (l := l.drop k) (by omega) (by omega) (by omega)
        generalize num4 (l.drop k) = n at *
        have e4 : ((l.map u8).take ((k : Int) + 8 + (n : Int)).toNat).drop ((k : Int) + 8).toNat = (((l.drop k).drop 8).take n).map u8 := by
          rw [show ((k : Int) + 8 + (n : Int)).toNat = (k + 8) + n by omega, show ((k : Int) + 8).toNat = k + 8 by omega, List.drop_take, Nat.add_sub_cancel_left, List.drop_drop, List.map_take, List.map_drop]
        have e5 : ((l.map u8).take ((k : Int) + 8 + (n : Int)).toNat).drop ((k : Int)).toNat = ((l.drop k).take (8 + n)).map u8 := by
          rw [show ((k : Int) + 8 + (n : Int)).toNat = k + (8 + n) by omega, Int.toNat_natCast, List.drop_take, Nat.add_sub_cancel_left, List.map_take, List.map_drop]
        have hpl : (((l.drop k).drop 8).take n).length = n := by simp; omega
        have er : ((l.drop k).take (8 + n)).drop 8 = ((l.drop k).drop 8).take n := by rw [List.drop_take, Nat.add_sub_cancel_left]
        have hf := refFrame_walk (((l.drop k).drop 8).take n) (by omega)
        have hsm := sameB_walk (frameOf (((l.drop k).drop 8).take n)) ((l.drop k).take (8 + n)) (by simp [frameOf, four_len]; omega)
        have hfl : (frameOf (((l.drop k).drop 8).take n)).length = 8 + n := by simp only [frameOf, List.length_append, four_len, hpl]
        generalize hp : ((l.drop k).drop 8).take n = p at *
        refine NW.i64 (by omega) (by omega) ?_
        refine ND.yes (by (simp only [List.length_map, List.length_append, List.length_replicate, List.length_cons, List.length_nil, List.length_take, List.length_drop]; omega)) ?_
        refine NP.mk (by kernel_rfl) ?_
        apply NDr.pure
        · exact ⟨rfl, rfl⟩
        apply NDr.pure
        · exact ⟨rfl, rfl⟩
        apply NDr.pure
        · refine NP.mk (by omega) ?_
          refine NG.mapN (by omega) ?_
          exact ⟨rfl, rfl⟩
        apply NDr.pure
        · exact ⟨rfl, rfl⟩
        apply NDr.pure
        · refine NW.i64 (by omega) (by omega) ?_
          exact ⟨rfl, rfl⟩
        apply NDr.pure
        · exact ⟨rfl, rfl⟩
        apply NDr.pure
        · exact ⟨rfl, rfl⟩
        apply NDr.pure
        · refine NW.i64 (by omega) (by omega) ?_
          exact ⟨rfl, rfl⟩
        apply NDr.pure
        · refine NP.mk (by omega) ?_
          rw [(i1)]
          refine NG.mapN (by omega) ?_
          exact ⟨rfl, rfl⟩
        apply NDr.pure
        · exact ⟨rfl, rfl⟩
        apply NDr.pure
        · refine NW.i64 (by omega) (by omega) ?_
          exact ⟨rfl, rfl⟩
        apply NDr.pure
        · refine NW.i64 (by omega) (by omega) ?_
          exact ⟨rfl, rfl⟩
        apply NDr.pure
        · refine NW.i64 (by omega) (by omega) ?_
          exact ⟨rfl, rfl⟩
        apply NDr.pure
        · exact ⟨rfl, rfl⟩
        apply NDr.pure
        · exact ⟨rfl, rfl⟩
        apply NDr.pure
        · refine NW.i64 (by omega) (by omega) ?_
          exact ⟨rfl, rfl⟩
        apply NDr.pure
        · refine NP.mk (by omega) ?_
          rw [(i2)]
          refine NG.mapN (by omega) ?_
          exact ⟨rfl, rfl⟩
        apply NDr.pure
        · exact ⟨rfl, rfl⟩
        apply NDr.pure
        · refine NW.i64 (by omega) (by omega) ?_
          exact ⟨rfl, rfl⟩
        apply NDr.pure
        · refine NW.i64 (by omega) (by omega) ?_
          exact ⟨rfl, rfl⟩
        apply NDr.pure
        · refine NW.i64 (by omega) (by omega) ?_
          exact ⟨rfl, rfl⟩
        apply NDr.pure
        · exact ⟨rfl, rfl⟩
        apply NDr.pure
        · exact ⟨rfl, rfl⟩
        apply NDr.pure
        · refine NW.i64 (by omega) (by omega) ?_
          exact ⟨rfl, rfl⟩
        apply NDr.pure
        · refine NP.mk (by omega) ?_
          rw [(i3)]
          refine NG.mapN (by omega) ?_
          exact ⟨rfl, rfl⟩
        apply NDr.pure
        · exact ⟨rfl, rfl⟩
        apply NDr.pure
        · refine NW.i64 (by omega) (by omega) ?_
          exact ⟨rfl, rfl⟩
        apply NDr.pure
        · refine NW.i64 (by omega) (by omega) ?_
          exact ⟨rfl, rfl⟩
        apply NDr.pure
        · refine NW.i64 (by omega) (by omega) ?_
          rw [(hnum)]
          exact ⟨rfl, rfl⟩
        apply NDr.pure
        · exact ⟨rfl, rfl⟩
        refine NP.mk (by kernel_rfl) ?_
        refine ND.no (by omega) ?_
        refine NW.i64 (by omega) (by omega) ?_
        refine NW.i64 (by omega) (by omega) ?_
        refine ND.no (by (simp only [List.length_map, List.length_append, List.length_replicate, List.length_cons, List.length_nil, List.length_take, List.length_drop]; omega)) ?_
        refine NW.i64 (by omega) (by omega) ?_
        refine NW.i64 (by omega) (by omega) ?_
        refine NW.i64 (by omega) (by omega) ?_
        refine NP.mk (by (simp only [List.length_map, List.length_append, List.length_replicate, List.length_cons, List.length_nil, List.length_take, List.length_drop]; omega)) ?_
        rw [(e4)]
        refine NFz.frz (NApp.endd rfl rfl (by simp; omega) ⟨_, 0, _, .vrow, .leaf, _, p.map u8, rfl, rfl, by simp, by simp, by simp [List.take_of_length_le], ?_⟩)
        refine NP.mk (by kernel_rfl) ?_
        apply NDr.pure
        · exact ⟨rfl, rfl⟩
        apply NDr.pure
        · refine NCall.call (hf) rfl rfl ?_
          exact ⟨rfl, rfl⟩
        apply NDr.pure
        · exact ⟨rfl, rfl⟩
        apply NDr.pure
        · exact ⟨rfl, rfl⟩
        apply NDr.pure
        · exact ⟨rfl, rfl⟩
        apply NDr.pure
        · refine NW.i64 (by omega) (by omega) ?_
          exact ⟨rfl, rfl⟩
        apply NDr.pure
        · exact ⟨rfl, rfl⟩
        apply NDr.pure
        · refine NW.i64 (by omega) (by omega) ?_
          exact ⟨rfl, rfl⟩
        apply NDr.pure
        · refine NP.mk (by (simp only [List.length_map, List.length_append, List.length_replicate, List.length_cons, List.length_nil, List.length_take, List.length_drop]; omega)) ?_
          rw [(e5)]
          exact ⟨rfl, rfl⟩
        apply NDr.pure
        · refine NCall.call (hsm) rfl rfl ?_
          exact ⟨rfl, rfl⟩
        apply NDr.pure
        · exact NB.det0'
        refine NP.mk (by kernel_rfl) ?_
        refine NB.mk (fun h => ?_) (fun h => ?_)
        · have hne : frameOf p ≠ (l.drop k).take (8 + n) := by simpa using h
          rw [if_neg hne] at ho
          have hs := nostop ho
          rw [hs]
          exact NRet.mk [] rfl (NFrz.mk (r.map bytes) (by simp) (by rw [List.drop_zero, List.take_of_length_le (by simp)]) ⟨.refl _, rfl⟩)
        · have heq : frameOf p = (l.drop k).take (8 + n) := by simpa using h
          rw [if_pos heq] at ho
          rw [scan_some ho, er, List.drop_drop] at hs
          refine NFz.own ?_
          refine NApp.endA (by simp) (by simp; omega) ?_
          refine NW.i64 (by omega) (by omega) ?_
          refine NW.i64 (by omega) (by omega) ?_
          refine Canon.mk [3] rfl ⟨l.length - (k + (8 + n)), by omega, k + (8 + n), r ++ [p], by omega, rfl, by simp; omega, by rw [hs, List.append_assoc, Nat.add_assoc k]; rfl, by rw [List.map_append]; rfl, ?_⟩
          have hlen : ∀ z : AV, (r.map bytes ++ [z]).length = (r ++ [p]).length := fun z => by simp
          exact congrArg (fun x => [bytes l, AV.own 0 0 x, i64 ((k : Int) + (8 + (n : Int)))]) (hlen _)
    · have hs := nostop (if_pos (by simp; omega))
      rw [hs]
      refine NW.i64 (by omega) (by omega) ?_
      refine ND.no (by (simp only [List.length_map, List.length_append, List.length_replicate, List.length_cons, List.length_nil, List.length_take, List.length_drop]; omega)) ?_
      exact NRet.mk [] rfl (NFrz.mk (r.map bytes) (by simp) (by rw [List.drop_zero, List.take_of_length_le (by simp)]) ⟨.refl _, rfl⟩)
end Go.Bv
