/- Part of the lift: an abstract walk of the program's code, proved sound, and what it shows of this program. -/
import Derived.Test.YtldhecicfapkaaaBvCrcP
namespace Go.Bv
open Go Go.Proofs

theorem crcSums_walk (l : List UInt8) (hl : l.length ≤ reachBytes) : ACalls Try.prog 3 [bytes l] [] (.bool true) [] := by
  have hl := reach_lt hl
  refine ACalls_of crc noDr_snd Try.func3 rfl (by kernel_rfl) (Nat.le_of_ble_eq_true rfl) rfl ?_
  refine NCall.call awake_walk rfl rfl ?_
  refine NP.mk ⟨by simp; omega, by simp; omega⟩ ?_
  have e : AV.list .leaf ((l.map u8).take (Int.toNat (min ((l.map u8).length : Int) 2000))) = bytes (l.take 2000) := congrArg _ (cut_map u8 l 2000)
  refine NCall.eq (congrArg (fun x => [x]) e) (NCall.call (sum_walk (l.take 2000) (by simp; omega)) rfl rfl ?_)
  refine NCall.eq (congrArg (fun x => [x]) e) (NCall.call (ref_walk (l.take 2000) (by simp; omega)) rfl rfl ?_)
  refine NB.dec (fun h => ?_) (fun h => ?_)
  · exact NRet.mk [] rfl ⟨.refl _, rfl⟩
  · exact absurd (by rw [sums_same]) h

theorem mixed : Try.prog.follows .mixedOrders = true := by kernel_rfl

theorem crcPieces_walk (l : List UInt8) (hl : l.length ≤ reachBytes) (z : Int) : ACalls Try.prog 4 [bytes l, i64 z] [] (.bool true) [] := by
  have hl := reach_lt hl
  refine ACalls_of crc (dr_snd crc mixed) Try.func4 rfl (by kernel_rfl) (Nat.le_of_ble_eq_true rfl) rfl ?_
  refine NCall.call awake_walk rfl rfl ?_
  refine NP.mk ⟨by simp; omega, by simp; omega⟩ ?_
  have e : (l.map u8).take (Int.toNat (min ((l.map u8).length : Int) 4000)) = (l.take 4000).map u8 := cut_map u8 l 4000
  rw [e]
  have hb : (l.take 4000).length < 2 ^ 47 := by simp; omega
  generalize l.take 4000 = b at hb
  refine NB.dec (fun h1 => ?_) (fun h1 => ?_)
  · exact NRet.mk [] rfl ⟨.refl _, rfl⟩
  · obtain ⟨k, rfl⟩ : ∃ k : Nat, z = k := ⟨z.toNat, by omega⟩
    refine NB.dec (fun h2 => ?_) (fun h2 => ?_)
    · exact NRet.mk [] rfl ⟨.refl _, rfl⟩
    · have hk : k ≤ b.length := by simp at h2; omega
      have h30 : crcMore (crcSum (b.take k)) (b.drop k) = crcSum b := by
        unfold crcSum; rw [crcMore_append, List.take_append_drop]
      refine NP.mk (by kernel_rfl) ?_
      refine NDr.pure _ ⟨rfl, rfl⟩ ?_
      refine NDr.pure _ ⟨rfl, rfl⟩ ?_
      refine NDr.pure (bytes (b.take k)) (NP.mk ⟨Int.natCast_nonneg _, by simpa using hk⟩ ⟨by rw [bytes, List.map_take]; rfl, rfl⟩) ?_
      refine NDr.eff _ _ (NCall.call (sum_walk (b.take k) (by simp; omega)) rfl rfl ⟨rfl, rfl⟩) ?_
      refine NDr.pure _ ⟨rfl, rfl⟩ ?_
      refine NDr.pure _ ⟨rfl, rfl⟩ ?_
      refine NDr.pure (bytes (b.drop k)) (NP.mk ⟨Int.natCast_nonneg _, by simpa using hk⟩ ⟨by rw [bytes, List.map_drop]; rfl, rfl⟩) ?_
      refine NDr.eff _ _ (NCall.call (more_walk (crcSum (b.take k)) (b.drop k) (by simp; omega)) rfl rfl ⟨rfl, rfl⟩) ?_
      refine NDr.pure _ ⟨rfl, rfl⟩ ?_
      refine NDr.eff _ _ (NCall.call (sum_walk b (by omega)) rfl rfl ⟨rfl, rfl⟩) ?_
      rw [h30]
      refine NDr.pure (.bool true) (NB.dec (fun _ => ⟨rfl, rfl⟩) (fun h => absurd rfl h)) ?_
      refine NDr.pure _ ⟨rfl, rfl⟩ ?_
      refine NDr.pure _ ⟨rfl, rfl⟩ ?_
      refine NDr.eff _ _ (NCall.call (sum_walk b (by omega)) rfl rfl ⟨rfl, rfl⟩) ?_
      refine NDr.eff _ _ (NCall.call ((more_walk (crcSum b) [] (by decide)).args (.cons (.refl _) (.cons (.nils .leaf) .nil))) rfl rfl ⟨rfl, rfl⟩) ?_
      refine NDr.pure _ ⟨rfl, rfl⟩ ?_
      refine NDr.eff _ _ (NCall.call (sum_walk b (by omega)) rfl rfl ⟨rfl, rfl⟩) ?_
      rw [crcMore_nil]
      refine NDr.pure (.bool true) (NB.dec (fun _ => ⟨rfl, rfl⟩) (fun h => absurd rfl h)) ?_
      refine NDr.pure _ ⟨rfl, rfl⟩ ?_
      refine NDr.pure _ ⟨rfl, rfl⟩ ?_
      refine NP.mk (by kernel_rfl) ?_
      exact NRet.mk [] rfl ⟨.refl _, rfl⟩

theorem u32_inj {a b : BitVec 32} : ((a.toNat : Int) = (b.toNat : Int)) ↔ a = b := by
  constructor
  · intro h; apply BitVec.eq_of_toNat_eq; omega
  · rintro rfl; rfl

theorem crcApart_walk (x y : BitVec 32) (l : List UInt8) (hl : l.length ≤ reachBytes) : ACalls Try.prog 6 [u32 x, u32 y, bytes l] [] (.bool true) [] := by
  have hl := reach_lt hl
  refine ACalls_of crc (dr_snd crc mixed) Try.func6 rfl (by kernel_rfl) (Nat.le_of_ble_eq_true rfl) rfl ?_
  refine NCall.call awake_walk rfl rfl ?_
  refine NP.mk ⟨by simp; omega, by simp; omega⟩ ?_
  have e : (l.map u8).take (Int.toNat (min ((l.map u8).length : Int) 2000)) = (l.take 2000).map u8 := cut_map u8 l 2000
  rw [e]
  have hb : (l.take 2000).length < 2 ^ 47 := by simp; omega
  generalize l.take 2000 = b at hb
  refine NCall.call (more_walk x b (by omega)) rfl rfl (NCall.call (more_walk y b (by omega)) rfl rfl ?_)
  refine NB.dec (fun h => ?_) (fun h => ?_)
  · refine NB.dec (fun h2 => ?_) (fun h2 => ?_)
    · exact NRet.mk [] rfl ⟨.refl _, rfl⟩
    · exact absurd (u32_inj.2 ((crcMore_inj b).1 (u32_inj.1 h))) h2
  · refine NB.dec (fun h2 => ?_) (fun h2 => ?_)
    · exact absurd (u32_inj.2 ((crcMore_inj b).2 (u32_inj.1 h2))) h
    · exact NRet.mk [] rfl ⟨.refl _, rfl⟩

theorem crcByte_inj2 {r : BitVec 32} {x y : UInt8} (h : crcByte r x = crcByte r y) : x = y := by
  unfold crcByte at h
  have := xor_eq_zero.2 h
  rw [← crcSteps_xor] at this
  have := xor_eq_zero.1 (crcSteps_inj 8 this)
  have h2 : ∀ x y z : BitVec 32, z ^^^ x = z ^^^ y → x = y := fun x y z h => by
    have := congrArg (z ^^^ ·) h
    simpa [← BitVec.xor_assoc] using this
  have := congrArg BitVec.toNat (h2 _ _ _ this)
  simp only [BitVec.toNat_ofNat] at this
  have h3 := x.toNat_lt
  have h4 := y.toNat_lt
  apply UInt8.toNat_inj.1
  omega
theorem crcSum_set {l : List UInt8} {i : Nat} {y : UInt8} (hi : i < l.length) (h : y ≠ l[i]) : crcSum (l.set i y) ≠ crcSum l := by
  unfold crcSum crcMore
  intro hh
  have hh := BitVec.not_inj.1 hh
  have e1 : l = l.take i ++ l[i] :: l.drop (i + 1) := by
    rw [← List.drop_eq_getElem_cons hi, List.take_append_drop]
  have e2 : l.set i y = l.take i ++ y :: l.drop (i + 1) := by
    rw [List.set_eq_take_append_cons_drop, if_pos hi]
  rw [e2] at hh
  conv at hh => rhs; rw [e1]
  simp only [List.foldl_append, List.foldl_cons] at hh
  exact h (crcByte_inj2 ((fold_inj _).1 hh))

theorem u8_inj {a b : UInt8} : ((a.toNat : Int) = (b.toNat : Int)) ↔ a = b := by
  constructor
  · intro h; apply UInt8.toNat_inj.1; omega
  · rintro rfl; rfl

theorem crcTurned_walk (l : List UInt8) (hl : l.length ≤ reachBytes) (z : Int) (y : UInt8) : ACalls Try.prog 5 [bytes l, i64 z, u8 y] [] (.bool true) [] := by
  have hl := reach_lt hl
  refine ACalls_of crc (dr_snd crc mixed) Try.func5 rfl (by kernel_rfl) (Nat.le_of_ble_eq_true rfl) rfl ?_
  refine NCall.call awake_walk rfl rfl ?_
  refine NP.mk ⟨by simp; omega, by simp; omega⟩ ?_
  have e : (l.map u8).take (Int.toNat (min ((l.map u8).length : Int) 4000)) = (l.take 4000).map u8 := cut_map u8 l 4000
  rw [e]
  have hb : (l.take 4000).length ≤ 4000 := by simp; omega
  generalize l.take 4000 = b at hb
  refine NB.dec (fun h1 => ?_) (fun h1 => ?_)
  · exact NRet.mk [] rfl ⟨.refl _, rfl⟩
  · obtain ⟨k, rfl⟩ : ∃ k : Nat, z = k := ⟨z.toNat, by omega⟩
    refine NB.dec (fun h2 => ?_) (fun h2 => ?_)
    · exact NRet.mk [] rfl ⟨.refl _, rfl⟩
    · have hk : k < b.length := by simp at h2; omega
      refine NB.dec (fun h3 => ?_) (fun h3 => ?_)
      · exact NRet.mk [] rfl ⟨.refl _, rfl⟩
      · refine NCall.at (copy_walk b (by omega)) ?_
        refine NP.mk ⟨Int.natCast_nonneg _, by omega, by simp⟩ (NG.mapE (Nat.zero_add k) hk ?_)
        refine NP.mk ⟨Int.natCast_nonneg _, by omega, by simp⟩ (NG.mapE (Nat.zero_add k) hk ?_)
        have he : (b.set k (b[k] ^^^ y)).map u8 = ((((b.map u8).set (0 + Int.toNat (k : Int)) (.int .u8 (bitop .xor .u8 b[k].toNat y.toNat))).drop 0).take b.length) := by
          rw [xor_u8, List.drop_zero, List.take_of_length_le (by simp), Nat.zero_add, List.map_set]; rfl
        refine NCall.at ((sum_walk (b.set k (b[k] ^^^ y)) (by simp; omega)).lend _ (.cons (.own trivial rfl (by simp) (by simp) he) .nil) rfl rfl) ?_
        refine NCall.call (sum_walk b (by omega)) rfl rfl ?_
        refine NB.dec (fun h4 => ?_) (fun h4 => ?_)
        · refine absurd (u32_inj.1 h4) (crcSum_set hk fun hh => h3 ?_)
          have : y = 0 := by
            have := congrArg (b[k] ^^^ ·) hh
            simpa [← UInt8.xor_assoc] using this
          rw [this]; rfl
        · exact NRet.mk [] rfl ⟨.refl _, rfl⟩

-- three texts
def xor3 (a b c : List UInt8) (n : Nat) : List UInt8 := (List.range n).map fun i => a.getD i 0 ^^^ b.getD i 0 ^^^ c.getD i 0
theorem xor3_succ (a b c : List UInt8) (n : Nat) : xor3 a b c (n + 1) = xor3 a b c n ++ [a.getD n 0 ^^^ b.getD n 0 ^^^ c.getD n 0] := by
  simp [xor3, List.range_succ]
theorem fold3 (a b c : List UInt8) : ∀ n, n ≤ a.length → n ≤ b.length → n ≤ c.length → (xor3 a b c n).foldl crcByte (~~~ 0) = (a.take n).foldl crcByte (~~~ 0) ^^^ (b.take n).foldl crcByte (~~~ 0) ^^^ (c.take n).foldl crcByte (~~~ 0)
  | 0, _, _, _ => by
    show ~~~ (0 : BitVec 32) = ~~~ 0 ^^^ ~~~ 0 ^^^ ~~~ 0
    decide
  | n + 1, h1, h2, h3 => by
    rw [xor3_succ, List.take_succ_eq_append_getElem (by omega), List.take_succ_eq_append_getElem (l := b) (by omega), List.take_succ_eq_append_getElem (l := c) (by omega)]
    simp only [List.foldl_append, List.foldl_cons, List.foldl_nil]
    rw [fold3 a b c n (by omega) (by omega) (by omega)]
    unfold crcByte
    rw [← crcSteps_xor, ← crcSteps_xor]
    congr 1
    have e : BitVec.ofNat 32 (a.getD n 0 ^^^ b.getD n 0 ^^^ c.getD n 0).toNat = BitVec.ofNat 32 a[n].toNat ^^^ BitVec.ofNat 32 b[n].toNat ^^^ BitVec.ofNat 32 c[n].toNat := by
      simp only [List.getD_eq_getElem?_getD, List.getElem?_eq_getElem (show n < a.length by omega), List.getElem?_eq_getElem (show n < b.length by omega), List.getElem?_eq_getElem (show n < c.length by omega), Option.getD_some]
      apply BitVec.eq_of_toNat_eq
      have h1 := a[n].toNat_lt
      have h2 := b[n].toNat_lt
      have h3 := c[n].toNat_lt
      have h4 := (a[n] ^^^ b[n] ^^^ c[n]).toNat_lt
      rw [BitVec.toNat_xor, BitVec.toNat_xor, BitVec.toNat_ofNat, BitVec.toNat_ofNat, BitVec.toNat_ofNat, BitVec.toNat_ofNat, Nat.mod_eq_of_lt (by omega), Nat.mod_eq_of_lt (by omega), Nat.mod_eq_of_lt (by omega), Nat.mod_eq_of_lt (by omega)]
      rw [UInt8.toNat_xor, UInt8.toNat_xor]
    rw [e]
    ac_rfl
theorem crcSum_three (a b c : List UInt8) (n : Nat) (h1 : n ≤ a.length) (h2 : n ≤ b.length) (h3 : n ≤ c.length) : crcSum (xor3 a b c n) = crcSum (a.take n) ^^^ crcSum (b.take n) ^^^ crcSum (c.take n) := by
  unfold crcSum crcMore
  rw [fold3 a b c n h1 h2 h3]
  have : ∀ x y z : BitVec 32, ~~~ (x ^^^ y ^^^ z) = ~~~ x ^^^ ~~~ y ^^^ ~~~ z := by
    intro x y z
    apply BitVec.eq_of_getLsbD_eq
    intro i hi
    simp only [BitVec.getLsbD_not, BitVec.getLsbD_xor, hi, decide_true, Bool.true_and]
    cases x.getLsbD i <;> cases y.getLsbD i <;> cases z.getLsbD i <;> rfl
  rw [this]

theorem crcThree_walk (a b c : List UInt8) (ha : a.length ≤ reachBytes) (hb : b.length ≤ reachBytes) (hc : c.length ≤ reachBytes) : ACalls Try.prog 7 [bytes a, bytes b, bytes c] [] (.bool true) [] := by
  have ha := reach_lt ha
  have hb := reach_lt hb
  have hc := reach_lt hc
  refine ACalls_of crc (dr_snd crc mixed) Try.func7 rfl (by kernel_rfl) (Nat.le_of_ble_eq_true rfl) rfl ?_
  refine NCall.call awake_walk rfl rfl ?_
  have e : min (min (min ((a.map u8).length : Int) (b.map u8).length) (c.map u8).length) 2000 = ((min (min (min a.length b.length) c.length) 2000 : Nat) : Int) := by
    simp only [List.length_map]; omega
  have h1 : min (min (min a.length b.length) c.length) 2000 ≤ a.length := by omega
  have h2 : min (min (min a.length b.length) c.length) 2000 ≤ b.length := by omega
  have h3 : min (min (min a.length b.length) c.length) 2000 ≤ c.length := by omega
  have h4 : min (min (min a.length b.length) c.length) 2000 ≤ 2000 := by omega
  generalize min (min (min a.length b.length) c.length) 2000 = n at h1 h2 h3 h4 e
  refine NLoop.mk [(8, .leaf)] [0, 1, 2, 7, 8, 9] (fun m vs H => ∃ i, i ≤ n ∧ m = n - i ∧ H = [.row .vrow .leaf ((xor3 a b c i).map u8)] ∧ vs = [bytes a, bytes b, bytes c, i64 n, .own 0 0 i, i64 i]) rfl ?_ ?_
  · refine Canon.mk [0] rfl ⟨n, 0, Nat.zero_le _, rfl, rfl, ?_⟩
    rw [e]; rfl
  · rintro m vs H ⟨i, hi, rfl, rfl, rfl⟩
    refine NB.dec (fun h => ?_) (fun h => ?_)
    · have hin : i < n := by omega
      refine NP.mk (by kernel_rfl) ?_
      refine NDr.any _ (fun _ => ⟨rfl, rfl⟩) ?_
      refine NDr.pure _ ⟨rfl, rfl⟩ ?_
      refine NDr.pure _ ⟨rfl, rfl⟩ ?_
      refine NDr.pure _ (NP.mk (Int.natCast_nonneg _) (NG.map (show i < a.length by omega) ⟨rfl, rfl⟩)) ?_
      refine NDr.pure _ ⟨rfl, rfl⟩ ?_
      refine NDr.pure _ ⟨rfl, rfl⟩ ?_
      refine NDr.pure _ ⟨rfl, rfl⟩ ?_
      refine NDr.pure _ (NP.mk (Int.natCast_nonneg _) (NG.map (show i < b.length by omega) ⟨rfl, rfl⟩)) ?_
      refine NDr.pure _ ⟨rfl, rfl⟩ ?_
      refine NDr.pure _ ⟨rfl, rfl⟩ ?_
      refine NDr.pure _ ⟨rfl, rfl⟩ ?_
      refine NDr.pure _ ⟨rfl, rfl⟩ ?_
      refine NDr.pure _ (NP.mk (Int.natCast_nonneg _) (NG.map (show i < c.length by omega) ⟨rfl, rfl⟩)) ?_
      refine NDr.pure _ ⟨rfl, rfl⟩ ?_
      refine NDr.pure (u8 (a.getD i 0 ^^^ b.getD i 0 ^^^ c.getD i 0)) ⟨?_, rfl⟩ ?_
      · simp only [List.getD_eq_getElem?_getD, List.getElem?_eq_getElem (show i < a.length by omega), List.getElem?_eq_getElem (show i < b.length by omega), List.getElem?_eq_getElem (show i < c.length by omega), Option.getD_some, xor_u8]
        rfl
      refine NDr.eff _ _ ⟨rfl, rfl⟩ ?_
      refine NDr.eff _ _ (NP.mk (by simp) (NApp.endd rfl (by simp [xor3]) (by simp [xor3]; omega) ⟨rfl, rfl⟩)) ?_
      refine NDr.any _ (fun _ => ⟨rfl, rfl⟩) ?_
      refine NP.mk (by kernel_rfl) ?_
      refine NW.i64 (by omega) (by omega) (Canon.mk [2] rfl ⟨n - (i + 1), by omega, i + 1, by omega, rfl, ?_, ?_⟩)
      · rw [xor3_succ, List.map_append]; rfl
      · have : ((xor3 a b c i).map u8 ++ [u8 (a.getD i 0 ^^^ b.getD i 0 ^^^ c.getD i 0)]).length = i + 1 := by simp [xor3]
        show [_, _, _, _, AV.own 0 0 ((xor3 a b c i).map u8 ++ [u8 (a.getD i 0 ^^^ b.getD i 0 ^^^ c.getD i 0)]).length, _] = _
        rw [this]; rfl
    · have hin : i = n := by omega
      subst hin
      have hx : (xor3 a b c i).length = i := by simp [xor3]
      refine NP.mk (by kernel_rfl) ?_
      refine NDr.any _ (fun _ => ⟨rfl, rfl⟩) ?_
      refine NDr.eff _ _ (NCall.at ((sum_walk (xor3 a b c i) (by omega)).lend _ (.cons (.own trivial rfl (by simp) (by simp [hx]) (by rw [List.drop_zero, List.take_of_length_le (by simp [hx])])) .nil) rfl rfl) ⟨rfl, rfl⟩) ?_
      refine NDr.pure _ ⟨rfl, rfl⟩ ?_
      refine NDr.pure _ ⟨rfl, rfl⟩ ?_
      refine NDr.pure (bytes (a.take i)) (NP.mk ⟨Int.natCast_nonneg _, by simp; omega⟩ ⟨by rw [bytes, List.map_take]; rfl, rfl⟩) ?_
      refine NDr.eff _ _ (NCall.call (sum_walk (a.take i) (by simp; omega)) rfl rfl ⟨rfl, rfl⟩) ?_
      refine NDr.pure _ ⟨rfl, rfl⟩ ?_
      refine NDr.pure _ ⟨rfl, rfl⟩ ?_
      refine NDr.pure (bytes (b.take i)) (NP.mk ⟨Int.natCast_nonneg _, by simp; omega⟩ ⟨by rw [bytes, List.map_take]; rfl, rfl⟩) ?_
      refine NDr.eff _ _ (NCall.call (sum_walk (b.take i) (by simp; omega)) rfl rfl ⟨rfl, rfl⟩) ?_
      refine NDr.pure _ ⟨rfl, rfl⟩ ?_
      refine NDr.pure _ ⟨rfl, rfl⟩ ?_
      refine NDr.pure _ ⟨rfl, rfl⟩ ?_
      refine NDr.pure (bytes (c.take i)) (NP.mk ⟨Int.natCast_nonneg _, by simp; omega⟩ ⟨by rw [bytes, List.map_take]; rfl, rfl⟩) ?_
      refine NDr.eff _ _ (NCall.call (sum_walk (c.take i) (by simp; omega)) rfl rfl ⟨rfl, rfl⟩) ?_
      refine NDr.pure _ ⟨rfl, rfl⟩ ?_
      have hs : bitop .xor .u32 (bitop .xor .u32 (crcSum (a.take i)).toNat (crcSum (b.take i)).toNat) (crcSum (c.take i)).toNat = ((crcSum (xor3 a b c i)).toNat : Int) := by
        rw [xor_u32, xor_u32, crcSum_three a b c i h1 h2 h3]
      refine NDr.pure (.bool true) (NB.dec (fun _ => ⟨rfl, rfl⟩) (fun h => absurd hs.symm h)) ?_
      refine NDr.pure _ ⟨rfl, rfl⟩ ?_
      refine NP.mk (by kernel_rfl) ?_
      exact NRet.mk [] rfl ⟨.refl _, rfl⟩

end Go.Bv
