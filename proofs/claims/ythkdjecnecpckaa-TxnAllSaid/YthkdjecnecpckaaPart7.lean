/- Part of the lift: an abstract walk of the program's code, proved sound, and what it shows of this program. -/
import Derived.Test.YthkdjecnecpckaaPart6
import Derived.Test.YthkdjecnecpckaaPart5
import Derived.Test.YthkdjecnecpckaaPart3
namespace Go.Bv
set_option linter.unusedSimpArgs false
set_option linter.unusedVariables false
set_option maxHeartbeats 4000000
set_option maxRecDepth 20000
open Go Go.Proofs

/-- bin.PutNum, a number that has a form. -/
theorem putNum_walk (b : List UInt8) (n : Nat) (hb : b.length ≤ 2 ^ 45) (hn : n ≤ 72057594037927935) : ACalls Try.prog Nm.bin_PutNum [bytes b, i64 n] [] (.tup [.own 0 0 (b ++ numBytes n).length, i64 0]) [.row .vrow .leaf ((b ++ numBytes n).map u8)] := by
  refine ACalls_of tab noDr_snd Nm.bin_PutNum_h rfl (by kernel_rfl) (Nat.le_of_ble_eq_true rfl) rfl ?_
  refine ND.no (by omega) ?_
  refine ND.no (by omega) ?_
  refine NCall.atA (ACalls.frame (cloneB_walk b (by omega)) rfl _) ?_
  refine NLoop.mk [] [1, 6] (fun m vs H => ∃ (k : Nat) (p : List UInt8), m = k ∧ p ++ numBytes k = numBytes n ∧ H = [.row .vrow .leaf ((b ++ p).map u8)] ∧ vs = [i64 k, .own 0 0 (b ++ p).length]) rfl ?_ ?_
  · exact Canon.mk [0] rfl ⟨n, n, [], rfl, rfl, by rw [List.append_nil], by rw [List.append_nil]; rfl⟩
  · rintro m vs H ⟨k, p, rfl, hp, rfl, rfl⟩
    have hlen : p.length + (numBytes m).length ≤ 8 := by
      have := congrArg List.length hp
      rw [List.length_append] at this
      rw [this]; exact numBytes_len8 hn
    refine NB.dec (fun h => ?_) (fun h => ?_)
    · have h : ¬ m < 128 := by omega
      refine NW.mk _ rfl (NMk.own (NFz.own (NP.mk (by simp) (NApp.endd rfl (by simp) (by simp; omega) ?_))))
      refine NP.mk (by decide) (Canon.mk [2] rfl ⟨m / 128, by omega, m / 128, p ++ [UInt8.ofNat (m % 128 + 128)], rfl, ?_, ?_, ?_⟩)
      · rw [List.append_assoc, ← hp, numBytes_ge h]; rfl
      · rw [byte_or, ← List.append_assoc, List.map_append (l₁ := b ++ p)]; rfl
      · rw [shr7]
        show [_, AV.own 0 0 ((List.map u8 (b ++ p) ++ [_]).length)] = _
        simp [i64]
    · have h : m < 128 := by omega
      refine NW.mk _ rfl (NMk.own (NFz.own (NP.mk (by simp) (NApp.endd rfl (by simp) (by simp; omega) ?_))))
      refine NRet.mk [2] rfl ⟨?_, ?_⟩
      · have : (b ++ numBytes n).length = (List.map u8 (b ++ p) ++ [AV.int .u8 (IntKind.wrap .u8 (m : Int))]).length := by
          rw [← hp, numBytes_lt h]; simp
        rw [this]; exact .refl _
      · rw [← hp, numBytes_lt h, wrap_byte, ← List.append_assoc, List.map_append (l₁ := b ++ p)]; rfl

theorem putNum_bad (b : List UInt8) (n : Int) (hn : n < 0 ∨ 72057594037927935 < n) : ACalls Try.prog Nm.bin_PutNum [bytes b, i64 n] [] (.tup [bytes [], i64 1]) [] := by
  refine ACalls_of tab noDr_snd Nm.bin_PutNum_h rfl (by kernel_rfl) (Nat.le_of_ble_eq_true rfl) rfl ?_
  have fin : LeA (.tup [.nils, i64 1]) (.tup [bytes [], i64 1]) := .tup (.cons (.nils .leaf) (.cons (.refl _) .nil))
  refine NB.dec (fun h => ?_) (fun h => ?_)
  · exact NRet.mk [] rfl ⟨fin, rfl⟩
  · refine NB.dec (fun h2 => ?_) (fun h2 => ?_)
    · exact NRet.mk [] rfl ⟨fin, rfl⟩
    · omega

theorem putNum_nil (b : List UInt8) (n : Int) (hn : n < 0 ∨ 72057594037927935 < n) : ACalls Try.prog Nm.bin_PutNum [bytes b, i64 n] [] (.tup [.nils, i64 1]) [] := by
  refine ACalls_of tab noDr_snd Nm.bin_PutNum_h rfl (by kernel_rfl) (Nat.le_of_ble_eq_true rfl) rfl ?_
  refine NB.dec (fun h => ?_) (fun h => ?_)
  · exact NRet.mk [] rfl ⟨.refl _, rfl⟩
  · refine NB.dec (fun h2 => ?_) (fun h2 => ?_)
    · exact NRet.mk [] rfl ⟨.refl _, rfl⟩
    · omega

theorem putNum_list (b : List UInt8) (n : Nat) (hb : b.length ≤ 2 ^ 45) (hn : n ≤ 72057594037927935) : ACalls Try.prog Nm.bin_PutNum [bytes b, i64 n] [] (.tup [bytes (b ++ numBytes n), i64 0]) [] :=
  (putNum_walk b n hb hn).drop (.tup (.cons (drop_bytes rfl) (.cons (.same _) .nil)) rfl)

set_option maxRecDepth 100000 in
/-- bin.Num. -/
theorem num_walk (l : List UInt8) (hl : l.length ≤ 2 ^ 46) : ACalls Try.prog Nm.bin_Num [bytes l] [] (numRes (rdNum 0 0 l)) [] := by
  refine ACalls_of tab noDr_snd Nm.bin_Num_h rfl (by kernel_rfl) (Nat.le_of_ble_eq_true rfl) rfl ?_
  refine NLoop.mk [] [0, 5, 8, 9, 10] (fun m vs H => ∃ i n, i ≤ l.length ∧ m = l.length - i ∧ i ≤ 7 ∧ n < 128 ^ i ∧ rdNum 0 0 l = rdNum i n (l.drop i) ∧ H = [] ∧ vs = [bytes l, i64 (n : Nat), bytes l, i64 l.length, i64 i]) rfl ?_ ?_
  · refine Canon.mk [] rfl ⟨l.length, 0, 0, Nat.zero_le _, rfl, by omega, by decide, rfl, rfl, ?_⟩
    simp [bytes, i64]
  · rintro m vs H ⟨i, n, hi, rfl, hi7, hn, hr, rfl, rfl⟩
    refine NB.dec (fun h => ?_) (fun h => ?_)
    · have hil : i < l.length := by omega
      rw [List.drop_eq_getElem_cons hil] at hr
      have hx := l[i].toNat_lt
      have hn56 : n < 2 ^ 49 := by
        have : (128 : Nat) ^ i ≤ 128 ^ 7 := Nat.pow_le_pow_right (by decide) hi7
        omega
      have e1 : ((7 * i : Nat) : Int) = IntKind.wrap .u64 (7 * (i : Int)) := by rw [wrap_u64]; omega
      refine NP.mk (Int.natCast_nonneg _) (NG.mapE (j := i) rfl hil ?_)
      refine NW.mk ((l[i].toNat % 128 : Nat) : Int) (by rw [and127, wrap_i64 _ (by omega) (by omega)]) (NW.i64 (by omega) (by omega) (NW.mk _ e1 (NP.mk (by omega) ?_)))
      rw [shl7 _ _ (Nat.mod_lt _ (by decide)) hi7]
      have hb : l[i].toNat % 128 * 128 ^ i < 2 ^ 56 := by
        have h1 : (128 : Nat) ^ i ≤ 128 ^ 7 := Nat.pow_le_pow_right (by decide) hi7
        have h2 : l[i].toNat % 128 ≤ 127 := by omega
        calc l[i].toNat % 128 * 128 ^ i ≤ 127 * 128 ^ 7 := Nat.mul_le_mul h2 h1
          _ < 2 ^ 56 := by decide
      have hor : bitop .or .i64 (n : Int) ((l[i].toNat % 128 * 128 ^ i : Nat) : Int) = ((n + l[i].toNat % 128 * 128 ^ i : Nat) : Int) := by
        rw [or_i64 _ _ (by omega) (by omega), or_add hn]
      have bad : rdNum 0 0 l = .error 2 → LeA (.tup [i64 0, .nils, i64 2]) (numRes (rdNum 0 0 l)) := fun h => by
        rw [h]; exact .tup (.cons (.refl _) (.cons (.nils .leaf) (.cons (.refl _) .nil)))
      have step : ¬ ((128 ≤ l[i].toNat ∧ i = 7) ∨ (l[i].toNat = 0 ∧ 0 < i)) → rdNum 0 0 l = if l[i].toNat < 128 then .ok (n + l[i].toNat % 128 * 128 ^ i, l.drop (i + 1)) else rdNum (i + 1) (n + l[i].toNat % 128 * 128 ^ i) (l.drop (i + 1)) := fun h => by
        rw [hr, rdNum, if_neg h]
      have ok : l[i].toNat < 128 → (rdNum 0 0 l = .ok (n + l[i].toNat % 128 * 128 ^ i, l.drop (i + 1))) → (AV.tup [.int .i64 (bitop .or .i64 (n : Int) ((l[i].toNat % 128 * 128 ^ i : Nat) : Int)), bytes (l.drop (i + 1)), i64 0]) = numRes (rdNum 0 0 l) := fun h hh => by
        rw [hh, hor]; rfl
      refine NB.dec (fun h1 => ?_) (fun h1 => ?_)
      · refine NB.dec (fun h2 => ?_) (fun h2 => ?_)
        · refine NRet.mk [] rfl ⟨bad ?_, rfl⟩
          rw [hr, rdNum, if_pos (.inl ⟨by omega, by omega⟩)]
        · refine NB.dec (fun h3 => ?_) (fun _ => ?_)
          · omega
          refine NB.dec (fun h3 => ?_) (fun _ => ?_)
          · omega
          refine NW.i64 (by omega) (by omega) (Canon.mk [] rfl ⟨l.length - (i + 1), by omega, i + 1, n + l[i].toNat % 128 * 128 ^ i, by omega, rfl, by omega, ?_, ?_, rfl, ?_⟩)
          · rw [Nat.pow_succ]
            have : l[i].toNat % 128 ≤ 127 := by omega
            have := Nat.mul_le_mul_right (128 ^ i) this
            omega
          · rw [step (by omega), if_neg (by omega)]
          · rw [hor]; rfl
      · have h1 : l[i].toNat < 128 := by omega
        refine NB.dec (fun h2 => ?_) (fun h2 => ?_)
        · refine NB.dec (fun h3 => ?_) (fun h3 => ?_)
          · refine NRet.mk [] rfl ⟨bad ?_, rfl⟩
            rw [hr, rdNum, if_pos (.inr ⟨by omega, by omega⟩)]
          · refine NB.dec (fun _ => ?_) (fun h4 => ?_)
            · refine NW.i64 (by omega) (by omega) (NP.mk ⟨by omega, by simp; omega⟩ ?_)
              refine NCall.eq (congrArg (fun x => [AV.list .leaf x]) (List.map_drop).symm) (NCall.call (cloneB_list (l.drop (i + 1)) (by simp; omega)) rfl rfl ?_)
              refine NRet.mk [] rfl ⟨?_, rfl⟩
              have := ok h1 (by rw [step (by omega), if_pos h1])
              rw [← this]
              exact .refl _
            · omega
        · refine NB.dec (fun _ => ?_) (fun h4 => ?_)
          · refine NW.i64 (by omega) (by omega) (NP.mk ⟨by omega, by simp; omega⟩ ?_)
            refine NCall.eq (congrArg (fun x => [AV.list .leaf x]) (List.map_drop).symm) (NCall.call (cloneB_list (l.drop (i + 1)) (by simp; omega)) rfl rfl ?_)
            refine NRet.mk [] rfl ⟨?_, rfl⟩
            have := ok h1 (by rw [step (by omega), if_pos h1])
            rw [← this]
            exact .refl _
          · omega
    · have hil : i = l.length := by omega
      have : rdNum 0 0 l = .error 3 := by rw [hr, List.drop_eq_nil_of_le (by omega)]; rfl
      refine NRet.mk [] rfl ⟨?_, rfl⟩
      rw [this]; exact .tup (.cons (.refl _) (.cons (.nils .leaf) (.cons (.refl _) .nil)))

/-- bin.Text. -/
theorem text_walk (l : List UInt8) (hl : l.length ≤ 2 ^ 46) : ACalls Try.prog Nm.bin_Text [bytes l] [] (textRes (rdText l)) [] := by
  refine ACalls_of tab (dr_snd tab mixed) Nm.bin_Text_h rfl (by kernel_rfl) (Nat.le_of_ble_eq_true rfl) rfl ?_
  have hnum := num_walk l hl
  have hlen := @rdNum_len 0 0 l
  have herr := @rdNum_err 0 0 l
  rw [rdText]
  rcases hr : rdNum 0 0 l with e | ⟨n, r⟩
  · rw [hr] at hnum
    have he := herr e hr
    have hnum : ACalls Try.prog Nm.bin_Num [bytes l] [] (.tup [i64 0, bytes [], i64 e]) [] := hnum
    refine NCall.call (hnum) rfl rfl ?_
    refine ND.no (by omega) ?_
    exact NRet.mk [] rfl ⟨by repeat (first | exact LeA.refl _ | exact LeA.nils _ | refine LeA.agg ?_ | refine LeA.tup ?_ | exact LeAs.nil | refine LeAs.cons ?_ ?_), rfl⟩
  · rw [hr] at hnum
    have hlen := hlen n r hr
    have hnum : ACalls Try.prog Nm.bin_Num [bytes l] [] (.tup [i64 n, bytes r, i64 0]) [] := hnum
    dsimp only
    by_cases h1 : 65536 < n
    · rw [if_pos h1]
      refine NCall.call (hnum) rfl rfl ?_
      refine ND.yes (by omega) ?_
      refine ND.yes (by omega) ?_
      exact NRet.mk [] rfl ⟨by repeat (first | exact LeA.refl _ | exact LeA.nils _ | refine LeA.agg ?_ | refine LeA.tup ?_ | exact LeAs.nil | refine LeAs.cons ?_ ?_), rfl⟩
    · rw [if_neg h1]
      by_cases h2 : r.length < n
      · rw [if_pos h2]
        refine NCall.call (hnum) rfl rfl ?_
        refine ND.yes (by omega) ?_
        refine ND.no (by omega) ?_
        refine ND.yes (by (simp only [List.length_map, List.length_append, List.length_replicate, List.length_cons, List.length_nil, List.length_take, List.length_drop]; omega)) ?_
        exact NRet.mk [] rfl ⟨by repeat (first | exact LeA.refl _ | exact LeA.nils _ | refine LeA.agg ?_ | refine LeA.tup ?_ | exact LeAs.nil | refine LeAs.cons ?_ ?_), rfl⟩
      · rw [if_neg h2]
        refine NCall.call (hnum) rfl rfl ?_
        refine ND.yes (by omega) ?_
        refine ND.no (by omega) ?_
        refine ND.no (by (simp only [List.length_map, List.length_append, List.length_replicate, List.length_cons, List.length_nil, List.length_take, List.length_drop]; omega)) ?_
        refine NP.mk (by kernel_rfl) ?_
        apply NDr.pure
        · exact ⟨rfl, rfl⟩
        apply NDr.pure
        · exact ⟨rfl, rfl⟩
        apply NDr.pure
        · refine NP.mk (by (simp only [List.length_map, List.length_append, List.length_replicate, List.length_cons, List.length_nil, List.length_take, List.length_drop]; omega)) ?_
          exact ⟨rfl, rfl⟩
        apply NDr.pure
        · refine NP.mk (by exact fun a ha => bytes_isByte a (List.mem_of_mem_take ha)) ?_
          exact ⟨rfl, rfl⟩
        apply NDr.pure
        · exact ⟨rfl, rfl⟩
        apply NDr.pure
        · exact ⟨rfl, rfl⟩
        apply NDr.pure
        · refine NP.mk (by (simp only [List.length_map, List.length_append, List.length_replicate, List.length_cons, List.length_nil, List.length_take, List.length_drop]; omega)) ?_
          exact ⟨rfl, rfl⟩
        apply NDr.pure
        · exact ⟨rfl, rfl⟩
        apply NDr.pure
        · exact ⟨rfl, rfl⟩
        apply NDr.pure
        · exact ⟨rfl, rfl⟩
        refine NP.mk (by kernel_rfl) ?_
        refine NRet.valE ?_ (NRet.mk [] rfl ⟨.refl _, rfl⟩)
        show AV.tup [.str ((List.take n (r.map u8)).map byteOf), .list .leaf (List.drop n (r.map u8)), i64 0] = AV.tup [.str (r.take n), bytes (r.drop n), i64 0]
        rw [← List.map_take, bytes_byteOf, ← List.map_drop]; rfl

/-- bin.PutInt. -/
theorem putInt_walk (b : List UInt8) (n : Int) (hb : b.length ≤ 2 ^ 45) : ACalls Try.prog Nm.bin_PutInt [bytes b, i64 n] [] (.own 0 0 (b ++ intBytes (u64of n) 8).length) [.row .vrow .leaf ((b ++ intBytes (u64of n) 8).map u8)] := by
  refine ACalls_of tab noDr_snd Nm.bin_PutInt_h rfl (by kernel_rfl) (Nat.le_of_ble_eq_true rfl) rfl ?_
  refine NCall.at (cloneB_walk b (by omega)) ?_
  refine NLoop.mk [] [1, 5, 9] (fun m vs H => ∃ i, i ≤ 8 ∧ m = 8 - i ∧ H = [.row .vrow .leaf ((b ++ intBytes (u64of n) i).map u8)] ∧ vs = [i64 n, .own 0 0 (b ++ intBytes (u64of n) i).length, i64 i]) rfl ?_ ?_
  · exact Canon.mk [0] rfl ⟨8, 0, Nat.zero_le _, rfl, by rw [show intBytes (u64of n) 0 = [] from rfl, List.append_nil], by rw [show intBytes (u64of n) 0 = [] from rfl, List.append_nil]; rfl⟩
  · rintro m vs H ⟨i, hi, rfl, rfl, rfl⟩
    refine NB.dec (fun h => ?_) (fun h => ?_)
    · have hi8 : i < 8 := by omega
      have e1 : ((8 * i : Nat) : Int) = IntKind.wrap .u64 (8 * (i : Int)) := by rw [wrap_u64]; omega
      refine NW.mk (u64of n : Int) (u64of_eq n).symm (NW.i64 (by omega) (by omega) (NW.mk _ e1 (NP.mk (by omega) (NW.mk _ (shr8 _ _ hi8).symm ?_))))
      refine NMk.own (NFz.own (NP.mk (by simp) (NApp.endd rfl (by simp) (by simp [intBytes]; omega) ?_)))
      refine NW.i64 (by omega) (by omega) (Canon.mk [2] rfl ⟨8 - (i + 1), by omega, i + 1, by omega, rfl, ?_, ?_⟩)
      · rw [intBytes_succ, ← List.append_assoc, List.map_append (l₁ := b ++ intBytes (u64of n) i)]; rfl
      · show [_, AV.own 0 0 ((List.map u8 (b ++ intBytes (u64of n) i) ++ [_]).length), _] = _
        simp [i64, intBytes]
    · have : i = 8 := by omega
      subst this
      exact NRet.mk [0] rfl ⟨.refl _, rfl⟩

/-- bin.PutText. -/
theorem putText_walk (b s : List UInt8) (hb : b.length ≤ 2 ^ 44) (hs : s.length ≤ 65536) : ACalls Try.prog Nm.bin_PutText [bytes b, .str s] [] (.tup [.own 0 0 (b ++ numBytes s.length ++ s).length, i64 0]) [.row .vrow .leaf ((b ++ numBytes s.length ++ s).map u8)] := by
  refine ACalls_of tab noDr_snd Nm.bin_PutText_h rfl (by kernel_rfl) (Nat.le_of_ble_eq_true rfl) rfl ?_
  have h8 := numBytes_len8 (n := s.length) (by omega)
  have hp := putNum_walk b s.length (by omega) (by omega)
  generalize numBytes s.length = q at *
  refine NB.dec (fun h => ?_) (fun h => ?_)
  · omega
  · refine NCall.at hp ?_
    refine NFz.own (NApp.endd rfl (by simp) (by simp; omega) ?_)
    refine NRet.mk [1] rfl ⟨?_, ?_⟩
    · have : (b ++ q ++ s).length = (List.map u8 (b ++ q) ++ List.map (fun c => AV.int .u8 (c.toNat : Int)) s).length := by simp
      rw [this]; exact .refl _
    · rw [List.map_append (l₁ := b ++ q)]; rfl

theorem putText_bad (b s : List UInt8) (hs : 65536 < s.length) : ACalls Try.prog Nm.bin_PutText [bytes b, .str s] [] (.tup [bytes [], i64 4]) [] := by
  refine ACalls_of tab noDr_snd Nm.bin_PutText_h rfl (by kernel_rfl) (Nat.le_of_ble_eq_true rfl) rfl ?_
  refine NB.dec (fun h => ?_) (fun h => ?_)
  · exact NRet.mk [] rfl ⟨.tup (.cons (.nils .leaf) (.cons (.refl _) .nil)), rfl⟩
  · omega

theorem putText_nil (b s : List UInt8) (hs : 65536 < s.length) : ACalls Try.prog Nm.bin_PutText [bytes b, .str s] [] (.tup [.nils, i64 4]) [] := by
  refine ACalls_of tab noDr_snd Nm.bin_PutText_h rfl (by kernel_rfl) (Nat.le_of_ble_eq_true rfl) rfl ?_
  refine NB.dec (fun h => ?_) (fun h => ?_)
  · exact NRet.mk [] rfl ⟨.refl _, rfl⟩
  · omega

/-- butteryref03.Num. -/
theorem refNum_walk (n : Nat) (hn : n ≤ 72057594037927935) : ACalls Try.prog Nm.ref03_Num [i64 n] [] (.tup [.own 0 0 (numBytes n).length, i64 0]) [.row .vrow .leaf ((numBytes n).map u8)] := by
  refine ACalls_of tab noDr_snd Nm.ref03_Num_h rfl (by kernel_rfl) (Nat.le_of_ble_eq_true rfl) rfl ?_
  have h8 := numBytes_len8 hn
  refine ND.no (by omega) ?_
  refine ND.no (by omega) ?_
  refine NLoop.mk [(4, .leaf)] [0, 4] (fun m vs H => ∃ (k : Nat) (p : List UInt8), m = k ∧ k ≤ 72057594037927935 ∧ p ++ numBytes k = numBytes n ∧ H = [.row .vrow .leaf (p.map u8)] ∧ vs = [i64 k, .own 0 0 p.length]) rfl ?_ ?_
  · exact Canon.mk [0] rfl ⟨n, n, [], rfl, hn, rfl, rfl, rfl⟩
  · rintro m vs H ⟨k, p, rfl, hk, hp, rfl, rfl⟩
    have hlen : p.length + (numBytes m).length ≤ 8 := by
      have := congrArg List.length hp
      rw [List.length_append] at this
      omega
    refine NP.mk (by decide) (NP.mk (by decide) (NW.mk ((m / 128 : Nat) : Int) (tdiv128 m (by omega)) ?_))
    rw [tmod128]
    refine NB.dec (fun h => ?_) (fun h => ?_)
    · have hm : m < 128 := by omega
      refine NW.mk _ (wrap_byte _).symm (NMk.own (NFz.own (NP.mk (by simp) (NApp.endd rfl (by simp) (by simp; omega) ?_))))
      refine NRet.mk [2] rfl ⟨?_, ?_⟩
      · have : (numBytes n).length = (List.map u8 p ++ [u8 (UInt8.ofNat (m % 128))]).length := by
          rw [← hp, numBytes_lt hm]; simp
        rw [this]; exact .refl _
      · rw [← hp, numBytes_lt hm, Nat.mod_eq_of_lt hm, List.map_append]; rfl
    · have hm : ¬ m < 128 := by omega
      refine NW.i64 (by omega) (by omega) (NW.mk ((UInt8.ofNat (m % 128 + 128)).toNat : Int) (by rw [← wrap_byte]; rfl) (NMk.own (NFz.own (NP.mk (by simp) (NApp.endd rfl (by simp) (by simp; omega) ?_)))))
      refine Canon.mk [2] rfl ⟨m / 128, by omega, m / 128, p ++ [UInt8.ofNat (m % 128 + 128)], rfl, by omega, ?_, ?_, ?_⟩
      · rw [List.append_assoc, ← hp, numBytes_ge hm]; rfl
      · rw [List.map_append]; rfl
      · show [_, AV.own 0 0 ((List.map u8 p ++ [_]).length)] = _
        simp [i64]

theorem refNum_bad (n : Int) (hn : n < 0 ∨ 72057594037927935 < n) : ACalls Try.prog Nm.ref03_Num [i64 n] [] (.tup [bytes [], i64 1]) [] := by
  refine ACalls_of tab noDr_snd Nm.ref03_Num_h rfl (by kernel_rfl) (Nat.le_of_ble_eq_true rfl) rfl ?_
  have fin : LeA (.tup [.nils, i64 1]) (.tup [bytes [], i64 1]) := .tup (.cons (.nils .leaf) (.cons (.refl _) .nil))
  refine NB.dec (fun h => ?_) (fun h => ?_)
  · exact NRet.mk [] rfl ⟨fin, rfl⟩
  · refine NB.dec (fun h2 => ?_) (fun h2 => ?_)
    · exact NRet.mk [] rfl ⟨fin, rfl⟩
    · omega

theorem refNum_list (n : Nat) (hn : n ≤ 72057594037927935) : ACalls Try.prog Nm.ref03_Num [i64 n] [] (.tup [bytes (numBytes n), i64 0]) [] :=
  (refNum_walk n hn).drop (.tup (.cons (drop_bytes rfl) (.cons (.same _) .nil)) rfl)

/-- butteryref03.Int. -/
theorem refInt_walk (n : Int) : ACalls Try.prog Nm.ref03_Int [i64 n] [] (bytes (intBytes (u64of n) 8)) [] := by
  refine ACalls_of tab noDr_snd Nm.ref03_Int_h rfl (by kernel_rfl) (Nat.le_of_ble_eq_true rfl) rfl ?_
  refine NLoop.mk [(3, .leaf)] [0, 3, 4] (fun m vs H => ∃ (i : Nat) (z : Int), i ≤ 8 ∧ m = 8 - i ∧ u64of z = u64of n / 256 ^ i ∧ H = [.row .vrow .leaf ((intBytes (u64of n) i).map u8)] ∧ vs = [i64 z, .own 0 0 i, i64 i]) rfl ?_ ?_
  · exact Canon.mk [0] rfl ⟨8, 0, n, Nat.zero_le _, rfl, by simp, rfl, rfl⟩
  · rintro m vs H ⟨i, z, hi, rfl, hz, rfl, rfl⟩
    have hv := u64of_lt n
    generalize u64of n = v at *
    refine NB.dec (fun h => ?_) (fun h => ?_)
    · have hi8 : i < 8 := by omega
      have e1 : ((intByte v i).toNat : Int) = IntKind.wrap .u8 ((u64of z : Int).tmod 256) := by
        have : (u64of z : Int).tmod ((256 : Nat) : Int) = ((u64of z % 256 : Nat) : Int) := by simp [Int.tmod]
        rw [show (256 : Int) = ((256 : Nat) : Int) from rfl, this, wrap_byte, hz]
        unfold intByte
        rw [UInt8.toNat_ofNat', UInt8.toNat_ofNat']
        omega
      have hlt : u64of z < 2 ^ 64 := u64of_lt z
      have e2 : ((u64of z / 256 : Nat) : Int) = IntKind.wrap .u64 ((u64of z : Int).tdiv 256) := by
        have : (u64of z : Int).tdiv ((256 : Nat) : Int) = ((u64of z / 256 : Nat) : Int) := by simp [Int.tdiv]
        rw [show (256 : Int) = ((256 : Nat) : Int) from rfl, this, wrap_u64]
        omega
      refine NW.mk (u64of z : Int) (u64of_eq z).symm (NP.mk (by decide) (NW.mk _ e1 ?_))
      refine NMk.own (NFz.own (NP.mk (by simp) (NApp.endd rfl (by simp [intBytes]) (by simp [intBytes]; omega) ?_)))
      refine NW.mk (u64of z : Int) (u64of_eq z).symm (NP.mk (by decide) (NW.mk _ e2 (NW.mk ((u64of z / 256 : Nat) : Int) (wrap_i64 _ (by omega) (by omega)).symm ?_)))
      refine NW.i64 (by omega) (by omega) (Canon.mk [2] rfl ⟨8 - (i + 1), by omega, i + 1, ((u64of z / 256 : Nat) : Int), by omega, rfl, ?_, ?_, ?_⟩)
      · rw [show u64of ((u64of z / 256 : Nat) : Int) = u64of z / 256 by unfold u64of; omega, hz, Nat.div_div_eq_div_mul, Nat.pow_succ]
      · rw [intBytes_succ, List.map_append]; rfl
      · show [_, AV.own 0 0 ((List.map u8 (intBytes v i) ++ [_]).length), _] = _
        simp [i64, intBytes]
    · have : i = 8 := by omega
      subst this
      exact NRet.mk [] rfl (NFrz.mk ((intBytes v 8).map u8) (by simp [intBytes]) (by rw [List.drop_zero, List.take_of_length_le (by simp [intBytes])]) ⟨.refl _, rfl⟩)

/-- butteryref03.Text. -/
theorem refText_walk (s : List UInt8) (hs : s.length ≤ 65536) : ACalls Try.prog Nm.ref03_Text [.str s] [] (.tup [bytes (numBytes s.length ++ s), i64 0]) [] := by
  refine ACalls_of tab noDr_snd Nm.ref03_Text_h rfl (by kernel_rfl) (Nat.le_of_ble_eq_true rfl) rfl ?_
  have h8 := numBytes_len8 (n := s.length) (by omega)
  have hp := refNum_walk s.length (by omega)
  generalize numBytes s.length = q at *
  refine NB.dec (fun h => ?_) (fun h => ?_)
  · omega
  · refine NCall.at hp ?_
    refine NFz.own (NApp.endd rfl (by simp) (by simp; omega) ?_)
    refine NRet.mk [] rfl (NFrz.mk ((q ++ s).map u8) (by simp) (by rw [List.drop_zero, List.take_of_length_le (Nat.le_refl _), List.map_append]; rfl) ⟨.refl _, rfl⟩)

theorem refText_bad (s : List UInt8) (hs : 65536 < s.length) : ACalls Try.prog Nm.ref03_Text [.str s] [] (.tup [bytes [], i64 4]) [] := by
  refine ACalls_of tab noDr_snd Nm.ref03_Text_h rfl (by kernel_rfl) (Nat.le_of_ble_eq_true rfl) rfl ?_
  refine NB.dec (fun h => ?_) (fun h => ?_)
  · exact NRet.mk [] rfl ⟨.tup (.cons (.nils .leaf) (.cons (.refl _) .nil)), rfl⟩
  · omega

/-- bin.Int. -/
theorem int_walk (l : List UInt8) (hl : l.length ≤ 2 ^ 46) (h8 : 8 ≤ l.length) : ACalls Try.prog Nm.bin_Int [bytes l] [] (.tup [i64 (intOf l), bytes (l.drop 8), i64 0]) [] := by
  refine ACalls_of tab noDr_snd Nm.bin_Int_h rfl (by kernel_rfl) (Nat.le_of_ble_eq_true rfl) rfl ?_
  refine NB.dec (fun h => ?_) (fun h => ?_)
  · simp only [List.length_map] at h; omega
  · refine NLoop.mk [] [0, 5, 10] (fun m vs H => ∃ i, i ≤ 8 ∧ m = 8 - i ∧ H = [] ∧ vs = [bytes l, .int .u64 (rdInt l i : Nat), i64 i]) rfl ?_ ?_
    · exact Canon.mk [] rfl ⟨8, 0, Nat.zero_le _, rfl, rfl, rfl⟩
    · rintro m vs H ⟨i, hi, rfl, rfl, rfl⟩
      refine NB.dec (fun h => ?_) (fun h => ?_)
      · have hi8 : i < 8 := by omega
        have hil : i < l.length := by omega
        have hx := l[i].toNat_lt
        have e1 : ((8 * i : Nat) : Int) = IntKind.wrap .u64 (8 * (i : Int)) := by rw [wrap_u64]; omega
        refine NP.mk (Int.natCast_nonneg _) (NG.mapE (j := i) rfl hil ?_)
        refine NW.mk (l[i].toNat : Int) (by rw [wrap_u64]; omega) (NW.i64 (by omega) (by omega) (NW.mk _ e1 (NP.mk (by omega) ?_)))
        rw [shl8 _ _ hx hi8]
        have hle : (256 : Nat) ^ i ≤ 256 ^ 7 := Nat.pow_le_pow_right (by decide) (by omega)
        have hr := rdInt_lt l i
        have hb : l[i].toNat * 256 ^ i ≤ 255 * 256 ^ 7 := Nat.mul_le_mul (by omega) hle
        have hor : bitop .or .u64 (rdInt l i : Int) ((l[i].toNat * 256 ^ i : Nat) : Int) = (rdInt l (i + 1) : Int) := by
          rw [or_u64n _ _ (by omega) (by omega), or_add8 hr, rdInt, List.getD_eq_getElem?_getD, List.getElem?_eq_getElem hil]; rfl
        refine NW.i64 (by omega) (by omega) (Canon.mk [] rfl ⟨8 - (i + 1), by omega, i + 1, by omega, rfl, rfl, ?_⟩)
        rw [hor]; rfl
      · have : i = 8 := by omega
        subst this
        refine NW.mk (intOf l) rfl (NP.mk ⟨by omega, by simpa using h8⟩ ?_)
        refine NCall.eq (congrArg (fun x => [AV.list .leaf x]) (List.map_drop).symm) (NCall.call (cloneB_list (l.drop 8) (by simp; omega)) rfl rfl ?_)
        exact NRet.mk [] rfl ⟨.refl _, rfl⟩

theorem int_short (l : List UInt8) (h8 : l.length < 8) : ACalls Try.prog Nm.bin_Int [bytes l] [] (.tup [i64 0, bytes [], i64 3]) [] := by
  refine ACalls_of tab (dr_snd tab mixed) Nm.bin_Int_h rfl (by kernel_rfl) (Nat.le_of_ble_eq_true rfl) rfl ?_
  refine ND.yes (by (simp only [List.length_map, List.length_append, List.length_replicate, List.length_cons, List.length_nil, List.length_take, List.length_drop]; omega)) ?_
  exact NRet.mk [] rfl ⟨by repeat (first | exact LeA.refl _ | exact LeA.nils _ | refine LeA.agg ?_ | refine LeA.tup ?_ | exact LeAs.nil | refine LeAs.cons ?_ ?_), rfl⟩
end Go.Bv
namespace Go.Bv
open Go Go.Proofs

-- transactions as bytes, plainly
def numB (n : Int) : List UInt8 := numBytes n.toNat
def textB (s : List UInt8) : List UInt8 := numBytes s.length ++ s
def int8B (n : Int) : List UInt8 := intBytes (u64of n) 8
def numsB (l : List Int) : List UInt8 := l.flatMap numB
def dotB (d : Dot) : List UInt8 := numsB [d.node, d.seq, d.at']
def effB (e : Eff) : List UInt8 := numB e.at' ++ (textB e.key ++ (textB e.field ++ (numB e.kind ++ (textB e.elem ++ (int8B e.n ++ (numB e.drops.length ++ e.drops.flatMap dotB))))))
def txnB (t : Txn) : List UInt8 := numsB [t.node, t.seq, t.deps.length] ++ (numsB t.deps ++ (numB t.effs.length ++ t.effs.flatMap effB))

theorem numsB_cons (n : Int) (l : List Int) : numsB (n :: l) = numB n ++ numsB l := rfl
theorem numsB_nil : numsB [] = [] := rfl
theorem numsB_snoc (l : List Int) (n : Int) : numsB (l ++ [n]) = numsB l ++ numB n := by simp [numsB]

/-- A reader: the bytes that are left, and the first error. -/
abbrev Rd := List UInt8 × Nat
def numS (r : Rd) : Int × Rd := if r.2 ≠ 0 then (0, r) else match rdNum 0 0 r.1 with
  | .ok (n, q) => (n, q, 0)
  | .error e => (0, [], e)
def textS (r : Rd) : List UInt8 × Rd := if r.2 ≠ 0 then ([], r) else match rdText r.1 with
  | .ok (s, q) => (s, q, 0)
  | .error e => ([], [], e)
def intS (r : Rd) : Int × Rd := if r.2 ≠ 0 then (0, r) else if r.1.length < 8 then (0, [], 3) else (intOf r.1, r.1.drop 8, 0)
def countS (most : Int) (r : Rd) : Int × Rd :=
  if (numS r).2.2 = 0 then if most < (numS r).1 then (0, (numS r).2.1, 2) else numS r else (0, (numS r).2)
/-- The same again and again. -/
def timesS {α : Type} (f : Rd → α × Rd) : Nat → Rd → List α × Rd
  | 0, r => ([], r)
  | k + 1, r => ((f r).1 :: (timesS f k (f r).2).1, (timesS f k (f r).2).2)
def dotS (r : Rd) : Dot × Rd := (⟨(numS r).1, (numS (numS r).2).1, (numS (numS (numS r).2).2).1⟩, (numS (numS (numS r).2).2).2)
def effS (r : Rd) : Eff × Rd :=
  let a := numS r; let b := textS a.2; let c := textS b.2; let d := numS c.2; let e := textS d.2; let f := intS e.2; let g := countS 64 f.2
  let h := timesS dotS g.1.toNat g.2
  (⟨a.1, b.1, c.1, d.1, e.1, f.1, h.1⟩, h.2)
def txnS (r : Rd) : Txn × Rd :=
  let a := numS r; let b := numS a.2; let c := countS 8 b.2; let d := timesS numS c.1.toNat c.2; let e := countS 8 d.2; let f := timesS effS e.1.toNat e.2
  (⟨a.1, b.1, d.1, f.1⟩, f.2)
/-- What is read: an error, or none; the transaction; what stands behind it. -/
def readE (b : List UInt8) : Nat := if (txnS (b, 0)).2.2 = 0 then if formed (txnS (b, 0)).1 = true then 0 else 2 else (txnS (b, 0)).2.2
def readT (b : List UInt8) : Txn := if readE b = 0 then (txnS (b, 0)).1 else ⟨0, 0, [], []⟩
def readR (b : List UInt8) : List UInt8 := if readE b = 0 then (txnS (b, 0)).2.1 else []

-- what was put is read
theorem numS_put {n : Int} (h : 0 ≤ n ∧ n ≤ 72057594037927935) (r : List UInt8) : numS (numB n ++ r, 0) = (n, r, 0) := by
  unfold numS numB
  rw [if_neg (by simp), rdNum_put r (n := n.toNat) (by omega)]
  simp only [Prod.mk.injEq, and_self, and_true]
  omega
theorem textS_put {s : List UInt8} (h : s.length ≤ 65536) (r : List UInt8) : textS (textB s ++ r, 0) = (s, r, 0) := by
  unfold textS textB
  rw [if_neg (by simp), rdText_put r h]
theorem int8B_len (n : Int) : (int8B n).length = 8 := intBytes_len _ _
theorem intS_put {n : Int} (h : okInt n) (r : List UInt8) : intS (int8B n ++ r, 0) = (n, r, 0) := by
  unfold intS
  rw [if_neg (by simp), if_neg (by rw [List.length_append, int8B_len]; omega)]
  rw [show intOf (int8B n ++ r) = n from intOf_intBytes n h.1 h.2 r, List.drop_left' (int8B_len n)]
theorem countS_put {n : Int} {most : Int} (h : 0 ≤ n ∧ n ≤ most) (hm : most ≤ 64) (r : List UInt8) : countS most (numB n ++ r, 0) = (n, r, 0) := by
  unfold countS
  rw [numS_put ⟨h.1, by omega⟩]
  rw [if_pos rfl, if_neg (by omega)]
theorem timesS_put {α : Type} {f : Rd → α × Rd} {E : α → List UInt8} (P : α → Prop) (hf : ∀ x, P x → ∀ r, f (E x ++ r, 0) = (x, r, 0)) : ∀ (l : List α), (∀ x ∈ l, P x) → ∀ r, timesS f l.length (l.flatMap E ++ r, 0) = (l, r, 0)
  | [], _, _ => rfl
  | x :: l, h, r => by
    have h1 := hf x (h x (List.mem_cons_self ..)) (l.flatMap E ++ r)
    show timesS f (l.length + 1) _ = _
    rw [List.flatMap_cons, List.append_assoc, timesS, h1]
    simp only
    rw [timesS_put P hf l (fun y hy => h y (List.mem_cons_of_mem _ hy)) r]
theorem dotS_put {d : Dot} (h : dotOk d = true) (r : List UInt8) : dotS (dotB d ++ r, 0) = (d, r, 0) := by
  unfold dotOk at h
  rw [decide_eq_true_eq] at h
  unfold dotS dotB
  simp only [numsB_cons, numsB_nil, List.append_nil, List.append_assoc]
  rw [numS_put (by omega), numS_put (by omega), numS_put (by omega)]
theorem itemOk_facts {x : Item} (h : itemOk x = true) : x.key.length ≤ 16 ∧ x.field.length ≤ 16 ∧ x.elem.length ≤ 32 ∧ 0 ≤ x.kind ∧ x.kind ≤ 3 ∧ dotOk x.dot = true := by
  unfold itemOk keyB pref kindOk at h
  simp only [Bool.and_eq_true, decide_eq_true_eq] at h
  obtain ⟨⟨_, h1, _⟩, ⟨h2, _⟩, h3, h4, h5⟩ := h
  exact ⟨h1, h2, h3, by omega, by omega, h5⟩
theorem effOk_facts {node seq : Int} {e : Eff} (h : effOk node seq e = true) : e.key.length ≤ 16 ∧ e.field.length ≤ 16 ∧ e.elem.length ≤ 32 ∧ 0 ≤ e.kind ∧ e.kind ≤ 3 ∧ 0 ≤ e.at' ∧ e.at' < 8 ∧ e.drops.length ≤ 64 ∧ ∀ d ∈ e.drops, dotOk d = true := by
  unfold effOk dropsOk at h
  simp only [Bool.and_eq_true, decide_eq_true_eq, List.all_eq_true] at h
  obtain ⟨⟨h1, h2, _⟩, h3⟩ := h
  by_cases hk : e.kind = 0
  · rw [if_pos hk] at h3
    simp only [Bool.and_eq_true, decide_eq_true_eq] at h3
    obtain ⟨g1, g2, g3, g4, g5, g6⟩ := itemOk_facts h3.2
    unfold dotOk at g6
    rw [decide_eq_true_eq] at g6
    exact ⟨g1, g2, g3, by omega, by omega, g6.2.2.2.2.1, g6.2.2.2.2.2, h1, h2⟩
  · rw [if_neg hk] at h3
    obtain ⟨g1, g2, g3, g4, g5, g6⟩ := itemOk_facts h3
    unfold dotOk at g6
    rw [decide_eq_true_eq] at g6
    exact ⟨g1, g2, g3, g4, g5, g6.2.2.2.2.1, g6.2.2.2.2.2, h1, h2⟩
theorem effS_put {node seq : Int} {e : Eff} (h : effOk node seq e = true) (hn : okInt e.n) (r : List UInt8) : effS (effB e ++ r, 0) = (e, r, 0) := by
  obtain ⟨h1, h2, h3, h4, h5, h6, h7, h8, h9⟩ := effOk_facts h
  unfold effS effB
  simp only [List.append_assoc]
  rw [numS_put (by omega)]
  simp only
  rw [textS_put (by omega)]
  simp only
  rw [textS_put (by omega)]
  simp only
  rw [numS_put (by omega)]
  simp only
  rw [textS_put (by omega)]
  simp only
  rw [intS_put hn]
  simp only
  rw [countS_put (by omega) (by omega)]
  simp only [Int.toNat_natCast]
  rw [timesS_put (fun d => dotOk d = true) (fun d hd r => dotS_put hd r) e.drops h9]
theorem formed_facts {t : Txn} (h : formed t = true) : (0 ≤ t.node ∧ t.node < 8 ∧ 1 ≤ t.seq ∧ t.seq ≤ 1073741824 ∧ t.deps.length ≤ 8 ∧ t.effs.length ≤ 8) ∧ (∀ n ∈ t.deps, 0 ≤ n ∧ n ≤ 1073741824) ∧ ∀ e ∈ t.effs, effOk t.node t.seq e = true := by
  unfold formed vecOk effsOk at h
  simp only [Bool.and_eq_true, decide_eq_true_eq, List.all_eq_true] at h
  obtain ⟨h1, ⟨h2, h3⟩, h4, ⟨h5, _⟩, _⟩ := h
  refine ⟨h1, fun n hn => ⟨?_, h3 n hn⟩, fun e he => (h5 e he).1⟩
  rw [← h2] at hn
  clear h3 h4 h5 h1
  have : ∀ (v : List Int), ∀ x ∈ trim v, 0 ≤ x := by
    intro v
    induction v with
    | nil => intro x hx; simp [trim] at hx
    | cons y r ih =>
      intro x hx
      rw [trim] at hx
      split at hx
      · split at hx
        · simp at hx
        · rw [List.mem_singleton.1 hx]; omega
      · rename_i z s hz
        rcases List.mem_cons.1 hx with rfl | hx
        · omega
        · exact ih x (by rw [hz]; exact hx)
  exact this _ n hn
theorem txnS_put {t : Txn} (h : formed t = true) (hn : ∀ e ∈ t.effs, okInt e.n) (r : List UInt8) : txnS (txnB t ++ r, 0) = (t, r, 0) := by
  obtain ⟨⟨h1, h2, h3, h4, h5, h6⟩, h7, h8⟩ := formed_facts h
  unfold txnS txnB
  simp only [numsB_cons, numsB_nil, List.append_nil, List.append_assoc]
  rw [numS_put (by omega)]
  simp only
  rw [numS_put (by omega)]
  simp only
  rw [countS_put (by omega) (by omega)]
  simp only [Int.toNat_natCast]
  rw [show numsB t.deps = t.deps.flatMap numB from rfl, timesS_put (fun n => 0 ≤ n ∧ n ≤ 1073741824) (fun n hn r => numS_put ⟨hn.1, by omega⟩ r) t.deps h7]
  simp only
  rw [countS_put (by omega) (by omega)]
  simp only [Int.toNat_natCast]
  rw [timesS_put (fun e => effOk t.node t.seq e = true ∧ okInt e.n) (fun e he r => effS_put he.1 he.2 r) t.effs (fun e he => ⟨h8 e he, hn e he⟩)]
end Go.Bv
namespace Go.Bv
set_option linter.unusedSimpArgs false
set_option linter.unusedVariables false
set_option maxHeartbeats 4000000
set_option maxRecDepth 20000
open Go Go.Proofs

theorem putText_list (b s : List UInt8) (hb : b.length ≤ 2 ^ 44) (hs : s.length ≤ 65536) : ACalls Try.prog Nm.bin_PutText [bytes b, .str s] [] (.tup [bytes (b ++ textB s), i64 0]) [] := by
  have h := (putText_walk b s hb hs).drop (.tup (.cons (drop_bytes rfl) (.cons (.same _) .nil)) rfl)
  rw [List.append_assoc] at h
  exact h
theorem putInt_list (b : List UInt8) (n : Int) (hb : b.length ≤ 2 ^ 45) : ACalls Try.prog Nm.bin_PutInt [bytes b, i64 n] [] (bytes (b ++ int8B n)) [] :=
  (putInt_walk b n hb).drop (.val (drop_bytes rfl) rfl (fun _ => nofun) (fun _ => nofun))
theorem putN_list (b : List UInt8) (n : Int) (hb : b.length ≤ 2 ^ 45) (hn : 0 ≤ n ∧ n ≤ 72057594037927935) : ACalls Try.prog Nm.bin_PutNum [bytes b, i64 n] [] (.tup [bytes (b ++ numB n), i64 0]) [] := by
  have h := putNum_list b n.toNat hb (by omega)
  rw [show ((n.toNat : Nat) : Int) = n by omega] at h
  exact h
theorem numB_len {n : Int} (hn : 0 ≤ n ∧ n ≤ 72057594037927935) : (numB n).length ≤ 8 := numBytes_len8 (by omega)
theorem numsB_len : ∀ {l : List Int}, (∀ n ∈ l, 0 ≤ n ∧ n ≤ 72057594037927935) → (numsB l).length ≤ 8 * l.length
  | [], _ => Nat.zero_le _
  | n :: l, h => by
    have h1 := numB_len (h n (List.mem_cons_self ..))
    have h2 := numsB_len (l := l) (fun x hx => h x (List.mem_cons_of_mem _ hx))
    rw [numsB_cons, List.length_append, List.length_cons]; omega
theorem putF1_walk (b : List UInt8) (l : List Int) (hb : b.length ≤ 2 ^ 40) (hl : l.length ≤ 2 ^ 30) (hx : ∀ n ∈ l, 0 ≤ n ∧ n ≤ 72057594037927935) :
    ACalls Try.prog Nm.txn_Put_1 [ints l, .ptr 0 0 0] [.row .box .leaf [bytes b]] (.tup []) [.row .box .leaf [bytes (b ++ numsB l)]] := by
  refine ACalls_of tab (dr_snd tab mixed) Nm.txn_Put_1_h rfl (by kernel_rfl) (Nat.le_of_ble_eq_true rfl) rfl ?_
  refine NLoop.mk [] [0, 1, 5, 6, 7] (fun m vs H => ∃ i, i ≤ l.length ∧ m = l.length - i ∧ H = [.row .box .leaf [bytes (b ++ numsB (l.take i))]] ∧ vs = [ints l, .ptr 0 0 0, ints l, i64 l.length, i64 i]) rfl ?_ ?_
  · exact Canon.mk [] rfl ⟨l.length, 0, Nat.zero_le _, rfl, by simp [numsB, bytes], by simp [ints, i64]⟩
  · rintro m vs H ⟨i, hi, rfl, rfl, rfl⟩
    by_cases hil : i < l.length
    · have hn := numsB_len (l := l.take i) (fun n hn => hx n (List.mem_of_mem_take hn))
      rw [List.length_take] at hn
      have h1 := putN_list (b ++ numsB (l.take i)) l[i] (by rw [List.length_append]; omega) (hx _ (List.getElem_mem hil))
      have e : b ++ numsB (l.take i) ++ numB l[i] = b ++ numsB (l.take (i + 1)) := by
        rw [List.append_assoc, ← numsB_snoc, List.take_succ_eq_append_getElem hil]
      rw [e] at h1
      refine ND.yes (by omega) ?_
      refine NP.mk (by omega) ?_
      refine NG.mapN (by omega) ?_
      refine NCall.call (h1) rfl rfl ?_
      refine NW.i64 (by omega) (by omega) ?_
      exact Canon.mk [] rfl ⟨l.length - (i + 1), by omega, i + 1, by omega, rfl, rfl, rfl⟩
    · have : i = l.length := by omega
      subst this
      rw [List.take_length]
      refine ND.no (by omega) ?_
      exact NRet.mk [] rfl ⟨.refl _, rfl⟩
theorem putF2_walk (b s : List UInt8) (hb : b.length ≤ 2 ^ 44) (hs : s.length ≤ 65536) :
    ACalls Try.prog Nm.txn_Put_2 [.str s, .ptr 0 0 0] [.row .box .leaf [bytes b]] (.tup []) [.row .box .leaf [bytes (b ++ textB s)]] := by
  refine ACalls_of tab (dr_snd tab mixed) Nm.txn_Put_2_h rfl (by kernel_rfl) (Nat.le_of_ble_eq_true rfl) rfl ?_
  have h1 := putText_list b s hb hs
  refine NCall.call (h1) rfl rfl ?_
  exact NRet.mk [] rfl ⟨.refl _, rfl⟩
theorem textB_len {s : List UInt8} (hs : s.length ≤ 65536) : (textB s).length ≤ 8 + s.length := by
  have := numBytes_len8 (n := s.length) (by omega)
  rw [textB, List.length_append]; omega
theorem dotB_ok {d : Dot} (h : dotOk d = true) : ∀ n ∈ [d.node, d.seq, d.at'], 0 ≤ n ∧ n ≤ 72057594037927935 := by
  unfold dotOk at h
  rw [decide_eq_true_eq] at h
  intro n hn
  simp only [List.mem_cons, List.not_mem_nil, or_false] at hn
  rcases hn with rfl | rfl | rfl <;> omega
theorem dotsB_len : ∀ {l : List Dot}, (∀ d ∈ l, dotOk d = true) → (l.flatMap dotB).length ≤ 24 * l.length
  | [], _ => Nat.zero_le _
  | d :: l, h => by
    have h1 := numsB_len (dotB_ok (h d (List.mem_cons_self ..)))
    have h2 := dotsB_len (l := l) (fun x hx => h x (List.mem_cons_of_mem _ hx))
    rw [List.flatMap_cons, List.length_append, List.length_cons, dotB]
    simp only [List.length_cons, List.length_nil] at h1
    omega
/-- The steps of an effect's bytes. -/
structure Steps (c0 : List UInt8) (e : Eff) where
  c1 : List UInt8
  c2 : List UInt8
  c3 : List UInt8
  c4 : List UInt8
  c5 : List UInt8
  c6 : List UInt8
  c7 : List UInt8
  h1 : c1 = c0 ++ numsB [e.at']
  h2 : c2 = c1 ++ textB e.key
  h3 : c3 = c2 ++ textB e.field
  h4 : c4 = c3 ++ numsB [e.kind]
  h5 : c5 = c4 ++ textB e.elem
  h6 : c6 = c5 ++ int8B e.n
  h7 : c7 = c6 ++ numsB [(e.drops.length : Int)]
def steps (c0 : List UInt8) (e : Eff) : Steps c0 e := ⟨_, _, _, _, _, _, _, rfl, rfl, rfl, rfl, rfl, rfl, rfl⟩
theorem Steps.eff {c0 : List UInt8} {e : Eff} (s : Steps c0 e) : s.c7 ++ e.drops.flatMap dotB = c0 ++ effB e := by
  rw [s.h7, s.h6, s.h5, s.h4, s.h3, s.h2, s.h1]
  simp only [effB, numsB_cons, numsB_nil, List.append_nil, List.append_assoc]
theorem Steps.lens {c0 : List UInt8} {e : Eff} (s : Steps c0 e) (h : e.key.length ≤ 16 ∧ e.field.length ≤ 16 ∧ e.elem.length ≤ 32 ∧ 0 ≤ e.kind ∧ e.kind ≤ 3 ∧ 0 ≤ e.at' ∧ e.at' < 8 ∧ e.drops.length ≤ 64 ∧ ∀ d ∈ e.drops, dotOk d = true) :
    s.c1.length ≤ c0.length + 8 ∧ s.c2.length ≤ c0.length + 32 ∧ s.c3.length ≤ c0.length + 56 ∧ s.c4.length ≤ c0.length + 64 ∧ s.c5.length ≤ c0.length + 104 ∧ s.c6.length ≤ c0.length + 112 ∧ s.c7.length ≤ c0.length + 120 := by
  obtain ⟨h1, h2, h3, h4, h5, h6, h7, h8, h9⟩ := h
  have e1 := numsB_len (l := [e.at']) (by simp; omega)
  have e2 := textB_len (s := e.key) (by omega)
  have e3 := textB_len (s := e.field) (by omega)
  have e4 := numsB_len (l := [e.kind]) (by simp; omega)
  have e5 := textB_len (s := e.elem) (by omega)
  have e6 := int8B_len e.n
  have e7 := numsB_len (l := [(e.drops.length : Int)]) (by simp; omega)
  simp only [List.length_cons, List.length_nil] at e1 e4 e7
  have l1 := congrArg List.length s.h1
  have l2 := congrArg List.length s.h2
  have l3 := congrArg List.length s.h3
  have l4 := congrArg List.length s.h4
  have l5 := congrArg List.length s.h5
  have l6 := congrArg List.length s.h6
  have l7 := congrArg List.length s.h7
  rw [List.length_append] at l1 l2 l3 l4 l5 l6 l7
  omega
theorem effB_len {e : Eff} (h : e.key.length ≤ 16 ∧ e.field.length ≤ 16 ∧ e.elem.length ≤ 32 ∧ 0 ≤ e.kind ∧ e.kind ≤ 3 ∧ 0 ≤ e.at' ∧ e.at' < 8 ∧ e.drops.length ≤ 64 ∧ ∀ d ∈ e.drops, dotOk d = true) : (effB e).length ≤ 1656 := by
  have h1 := (steps [] e).lens h
  have h2 := (steps [] e).eff
  have h3 := dotsB_len h.2.2.2.2.2.2.2.2
  have h4 := h.2.2.2.2.2.2.2.1
  have h2 := congrArg List.length h2
  rw [List.length_append, List.nil_append] at h2
  simp only [List.length_nil] at h1
  omega
theorem effsB_len {n s : Int} : ∀ {l : List Eff}, (∀ e ∈ l, effOk n s e = true) → (l.flatMap effB).length ≤ 1656 * l.length
  | [], _ => Nat.zero_le _
  | d :: l, h => by
    have h1 := effB_len (effOk_facts (h d (List.mem_cons_self ..)))
    have h2 := effsB_len (l := l) (fun x hx => h x (List.mem_cons_of_mem _ hx))
    rw [List.flatMap_cons, List.length_append, List.length_cons]
    omega
theorem flatMap_snoc {α : Type} (f : α → List UInt8) (l : List α) {i : Nat} (h : i < l.length) : (l.take (i + 1)).flatMap f = (l.take i).flatMap f ++ f l[i] := by
  rw [List.take_succ_eq_append_getElem h, List.flatMap_append]; simp
theorem put_walk (b : List UInt8) (t : Txn) (hb : b.length ≤ 2 ^ 20) (ht : smTxn t) (hf : formed t = true) : ACalls Try.prog Nm.txn_Put [bytes b, txnA t] [] (.tup [bytes (b ++ txnB t), i64 0]) [] := by
  refine ACalls_of tab (dr_snd tab mixed) Nm.txn_Put_h rfl (by kernel_rfl) (Nat.le_of_ble_eq_true rfl) rfl ?_
  have k1 := formed_walk t ht
  rw [hf] at k1
  have k2 := cloneB_list b (by omega)
  obtain ⟨⟨f1, f2, f3, f4, f5, f6⟩, f7, f8⟩ := formed_facts hf
  have g1 : ∀ n ∈ [t.node, t.seq, (t.deps.length : Int)], 0 ≤ n ∧ n ≤ 72057594037927935 := by simp; omega
  have g2 : ∀ n ∈ t.deps, 0 ≤ n ∧ n ≤ 72057594037927935 := fun n hn => by have := f7 n hn; omega
  have g3 : ∀ n ∈ [(t.effs.length : Int)], 0 ≤ n ∧ n ≤ 72057594037927935 := by simp; omega
  have k3 := putF1_walk b _ (by omega) (by simp) g1
  have n1 := numsB_len g1
  have n2 := numsB_len g2
  have n3 := numsB_len g3
  simp only [List.length_cons, List.length_nil] at n1 n3
  obtain ⟨b1, e1⟩ : ∃ c, c = b ++ numsB [t.node, t.seq, (t.deps.length : Int)] := ⟨_, rfl⟩
  obtain ⟨b2, e2⟩ : ∃ c, c = b1 ++ numsB t.deps := ⟨_, rfl⟩
  obtain ⟨b3, e3⟩ : ∃ c, c = b2 ++ numsB [(t.effs.length : Int)] := ⟨_, rfl⟩
  have l1 := congrArg List.length e1
  have l2 := congrArg List.length e2
  have l3 := congrArg List.length e3
  rw [List.length_append] at l1 l2 l3
  have k4 := putF1_walk b1 t.deps (by omega) (by omega) g2
  have k5 := putF1_walk b2 _ (by omega) (by simp) g3
  rw [← e1] at k3
  rw [← e2] at k4
  rw [← e3] at k5
  have efin : b3 ++ t.effs.flatMap effB = b ++ txnB t := by
    rw [e3, e2, e1]
    simp only [txnB, numsB_cons, numsB_nil, List.append_nil, List.append_assoc]
  refine NCall.call (k1) rfl rfl ?_
  refine NCall.call (k2) rfl rfl ?_
  refine NCall.eq (by simp only [List.length_map] <;> exact rfl) ?_
  refine NCall.subA [1] (k3) ?_
  refine NCall.subA [1] (k4) ?_
  refine NCall.eq (by simp only [List.length_map] <;> exact rfl) ?_
  refine NCall.subA [1] (k5) ?_
  refine NLoop.mk [] [6, 7, 8, 41, 42, 43] (fun m vs H => ∃ i, i ≤ t.effs.length ∧ m = t.effs.length - i ∧ H = [.row .box (.agg 4) [txnA t], .row .box .leaf [bytes (b3 ++ (t.effs.take i).flatMap effB)]] ∧ vs = [.ptr 1 0 0, .fn Nm.txn_Put_1 [.ptr 1 0 0], .fn Nm.txn_Put_2 [.ptr 1 0 0], effsA t.effs, i64 t.effs.length, i64 i]) rfl ?_ ?_
  · exact Canon.mk [0, 1] rfl ⟨t.effs.length, 0, Nat.zero_le _, rfl, by rw [List.take_zero, List.flatMap_nil, List.append_nil]; rfl, by rw [List.length_map]; rfl⟩
  · rintro m vs H ⟨i, hi, rfl, rfl, rfl⟩
    by_cases hil : i < t.effs.length
    · have hfx := effOk_facts (f8 _ (List.getElem_mem hil))
      have hbl := effsB_len (l := t.effs.take i) (fun n hn => f8 n (List.mem_of_mem_take hn))
      rw [List.length_take] at hbl
      have hsn := flatMap_snoc effB t.effs hil
      obtain ⟨c0, hc0⟩ : ∃ c, c = b3 ++ (t.effs.take i).flatMap effB := ⟨_, rfl⟩
      have lc0 := congrArg List.length hc0
      rw [List.length_append] at lc0
      rw [← hc0]
      have hnext : c0 ++ effB t.effs[i] = b3 ++ (t.effs.take (i + 1)).flatMap effB := by rw [hsn, hc0, List.append_assoc]
      rw [← (steps c0 t.effs[i]).eff] at hnext
      have hl := (steps c0 t.effs[i]).lens hfx
      have hs1 := (steps c0 t.effs[i]).h1
      have hs2 := (steps c0 t.effs[i]).h2
      have hs3 := (steps c0 t.effs[i]).h3
      have hs4 := (steps c0 t.effs[i]).h4
      have hs5 := (steps c0 t.effs[i]).h5
      have hs6 := (steps c0 t.effs[i]).h6
      have hs7 := (steps c0 t.effs[i]).h7
      generalize (steps c0 t.effs[i]).c1 = c1, (steps c0 t.effs[i]).c2 = c2, (steps c0 t.effs[i]).c3 = c3, (steps c0 t.effs[i]).c4 = c4, (steps c0 t.effs[i]).c5 = c5, (steps c0 t.effs[i]).c6 = c6, (steps c0 t.effs[i]).c7 = c7 at *
      obtain ⟨x1, x2, x3, x4, x5, x6, x7, x8, x9⟩ := hfx
      have m1 := putF1_walk c0 [t.effs[i].at'] (by omega) (by simp) (by simp; omega)
      have m2 := putF2_walk c1 t.effs[i].key (by omega) (by omega)
      have m3 := putF2_walk c2 t.effs[i].field (by omega) (by omega)
      have m4 := putF1_walk c3 [t.effs[i].kind] (by omega) (by simp) (by simp; omega)
      have m5 := putF2_walk c4 t.effs[i].elem (by omega) (by omega)
      have m6 := putInt_list c5 t.effs[i].n (by omega)
      have m7 := putF1_walk c6 [(t.effs[i].drops.length : Int)] (by omega) (by simp) (by simp; omega)
      rw [← hs1] at m1
      rw [← hs2] at m2
      rw [← hs3] at m3
      rw [← hs4] at m4
      rw [← hs5] at m5
      rw [← hs6] at m6
      rw [← hs7] at m7
      refine ND.yes (by omega) ?_
      refine NP.mk (by omega) ?_
      refine NG.mapN (by omega) ?_
      refine NCall.subA [1] (m1) ?_
      refine NCall.subA [1] (m2) ?_
      refine NCall.subA [1] (m3) ?_
      refine NCall.subA [1] (m4) ?_
      refine NCall.subA [1] (m5) ?_
      refine NCall.call (m6) rfl rfl ?_
      refine NCall.eq (by simp only [List.length_map] <;> exact rfl) ?_
      refine NCall.subA [1] (m7) ?_
      refine NLoop.mk [] [6, 7, 8, 41, 42, 43, 80, 81, 82] (fun m vs H => ∃ j, j ≤ t.effs[i].drops.length ∧ m = t.effs[i].drops.length - j ∧ H = [.row .box (.agg 4) [txnA t], .row .box .leaf [bytes (c7 ++ (t.effs[i].drops.take j).flatMap dotB)]] ∧
        vs = [.ptr 1 0 0, .fn Nm.txn_Put_1 [.ptr 1 0 0], .fn Nm.txn_Put_2 [.ptr 1 0 0], effsA t.effs, i64 t.effs.length, i64 i, dotsA t.effs[i].drops, i64 t.effs[i].drops.length, i64 j]) rfl ?_ ?_
      · exact Canon.mk [0, 1] rfl ⟨t.effs[i].drops.length, 0, Nat.zero_le _, rfl, by rw [List.take_zero, List.flatMap_nil, List.append_nil]; rfl, by simp only [List.length_map]; rfl⟩
      · rintro m vs H ⟨j, hj, rfl, rfl, rfl⟩
        by_cases hjl : j < t.effs[i].drops.length
        · have hdl := dotsB_len (l := t.effs[i].drops.take j) (fun d hd => x9 d (List.mem_of_mem_take hd))
          rw [List.length_take] at hdl
          have hdo := dotB_ok (x9 _ (List.getElem_mem hjl))
          have hds := flatMap_snoc dotB t.effs[i].drops hjl
          have q1 := putF1_walk (c7 ++ (t.effs[i].drops.take j).flatMap dotB) [t.effs[i].drops[j].node, t.effs[i].drops[j].seq, t.effs[i].drops[j].at'] (by rw [List.length_append]; omega) (by simp) hdo
          rw [List.append_assoc, show numsB [t.effs[i].drops[j].node, t.effs[i].drops[j].seq, t.effs[i].drops[j].at'] = dotB t.effs[i].drops[j] from rfl, ← hds] at q1
          refine ND.yes (by omega) ?_
          refine NP.mk (by omega) ?_
          refine NG.mapN (by omega) ?_
          refine NCall.subA [1] (q1) ?_
          refine NW.i64 (by omega) (by omega) ?_
          exact Canon.mk [0, 1] rfl ⟨t.effs[i].drops.length - (j + 1), by omega, j + 1, by omega, rfl, rfl, rfl⟩
        · have : j = t.effs[i].drops.length := by omega
          subst this
          rw [List.take_length, hnext]
          refine ND.no (by omega) ?_
          refine NW.i64 (by omega) (by omega) ?_
          exact Canon.mk [0, 1] rfl ⟨t.effs.length - (i + 1), by omega, i + 1, by omega, rfl, rfl, rfl⟩
    · have : i = t.effs.length := by omega
      subst this
      rw [List.take_length, efin]
      refine ND.no (by omega) ?_
      exact NRet.mk [] rfl ⟨.refl _, rfl⟩
theorem put_bad (b : List UInt8) (t : Txn) (ht : smTxn t) (hf : formed t = false) : ACalls Try.prog Nm.txn_Put [bytes b, txnA t] [] (.tup [bytes [], i64 2]) [] := by
  refine ACalls_of tab (dr_snd tab mixed) Nm.txn_Put_h rfl (by kernel_rfl) (Nat.le_of_ble_eq_true rfl) rfl ?_
  have k1 := formed_walk t ht
  rw [hf] at k1
  refine NCall.call (k1) rfl rfl ?_
  exact NRet.mk [] rfl ⟨by repeat (first | exact LeA.refl _ | exact LeA.nils _ | refine LeA.agg ?_ | refine LeA.tup ?_ | exact LeAs.nil | refine LeAs.cons ?_ ?_), rfl⟩
end Go.Bv
namespace Go.Bv
open Go Go.Proofs

-- what is read is as it was written
theorem numS_ok {r : Rd} (h : (numS r).2.2 = 0) : r.2 = 0 ∧ (0 ≤ (numS r).1 ∧ (numS r).1 ≤ 72057594037927935) ∧ r.1 = numB (numS r).1 ++ (numS r).2.1 := by
  by_cases h0 : r.2 = 0
  · refine ⟨h0, ?_⟩
    unfold numS at *
    rw [if_neg (by simpa using h0)] at *
    cases hq : rdNum 0 0 r.1 with
    | error e => rw [hq] at h; have := rdNum_err e hq; simp only at h; omega
    | ok p =>
      obtain ⟨n, q⟩ := p
      obtain ⟨h1, h2⟩ := rdNum_one hq
      simp only
      exact ⟨by omega, by rw [h2]; simp [numB]⟩
  · unfold numS at h; rw [if_pos h0] at h; exact absurd h h0
theorem textS_ok {r : Rd} (h : (textS r).2.2 = 0) : r.2 = 0 ∧ r.1 = textB (textS r).1 ++ (textS r).2.1 := by
  by_cases h0 : r.2 = 0
  · refine ⟨h0, ?_⟩
    unfold textS at *
    rw [if_neg (by simpa using h0)] at *
    cases hq : rdText r.1 with
    | error e => rw [hq] at h; have := rdText_err hq; simp only at h; omega
    | ok p =>
      obtain ⟨n, q⟩ := p
      exact (rdText_one hq).2
  · unfold textS at h; rw [if_pos h0] at h; exact absurd h h0
theorem wrapi (n : Int) : IntKind.wrap .i64 n = if n % 18446744073709551616 ≥ 9223372036854775808 then n % 18446744073709551616 - 18446744073709551616 else n % 18446744073709551616 := by
  simp [IntKind.wrap, IntKind.bits, IntKind.signed]
theorem intOf_ok (l : List UInt8) : okInt (intOf l) := by
  unfold intOf okInt
  rw [wrapi]
  have := rdInt_lt l 8
  split <;> omega
theorem rdInt_byte (l : List UInt8) (k : Nat) (hk : k < 8) : rdInt l 8 / 256 ^ k % 256 = (l.getD k 0).toNat := by
  have h := fun i => (l.getD i 0).toNat_lt
  have h0 := h 0
  have h1 := h 1
  have h2 := h 2
  have h3 := h 3
  have h4 := h 4
  have h5 := h 5
  have h6 := h 6
  have h7 := h 7
  clear h
  have e : rdInt l 8 = (l.getD 0 0).toNat + (l.getD 1 0).toNat * 256 + (l.getD 2 0).toNat * 65536 + (l.getD 3 0).toNat * 16777216 + (l.getD 4 0).toNat * 4294967296 + (l.getD 5 0).toNat * 1099511627776 + (l.getD 6 0).toNat * 281474976710656 + (l.getD 7 0).toNat * 72057594037927936 := by
    simp only [rdInt, Nat.zero_add, Nat.pow_zero, Nat.mul_one, Nat.pow_succ, Nat.one_mul]
  rw [e]
  rcases (by omega : k = 0 ∨ k = 1 ∨ k = 2 ∨ k = 3 ∨ k = 4 ∨ k = 5 ∨ k = 6 ∨ k = 7) with rfl | rfl | rfl | rfl | rfl | rfl | rfl | rfl <;> omega
theorem int8B_intOf {l : List UInt8} (h : 8 ≤ l.length) : l = int8B (intOf l) ++ l.drop 8 := by
  have hu : u64of (intOf l) = rdInt l 8 := by
    unfold intOf u64of
    rw [wrapi]
    have := rdInt_lt l 8
    split <;> omega
  have : int8B (intOf l) = l.take 8 := by
    unfold int8B
    rw [hu]
    apply List.ext_getElem
    · rw [intBytes_len, List.length_take]; omega
    · intro i h1 h2
      rw [intBytes_len] at h1
      have hb := rdInt_byte l i h1
      have hx := (l.getD i 0).toNat_lt
      simp only [intBytes, List.getElem_map, List.getElem_range, List.getElem_take, intByte]
      rw [List.getD_eq_getElem?_getD, List.getElem?_eq_getElem (by omega), Option.getD_some] at hb
      apply UInt8.toNat_inj.1
      rw [UInt8.toNat_ofNat']
      omega
  rw [this, List.take_append_drop]
theorem intS_ok {r : Rd} (h : (intS r).2.2 = 0) : r.2 = 0 ∧ okInt (intS r).1 ∧ r.1 = int8B (intS r).1 ++ (intS r).2.1 := by
  by_cases h0 : r.2 = 0
  · refine ⟨h0, ?_⟩
    unfold intS at *
    rw [if_neg (by simpa using h0)] at *
    by_cases h8 : r.1.length < 8
    · rw [if_pos h8] at h; simp at h
    · rw [if_neg h8] at *
      exact ⟨intOf_ok _, int8B_intOf (by omega)⟩
  · unfold intS at h; rw [if_pos h0] at h; exact absurd h h0
theorem countS_ok {m : Int} {r : Rd} (h : (countS m r).2.2 = 0) : r.2 = 0 ∧ (0 ≤ (countS m r).1 ∧ (countS m r).1 ≤ m) ∧ r.1 = numB (countS m r).1 ++ (countS m r).2.1 := by
  by_cases h0 : (numS r).2.2 = 0
  · obtain ⟨h1, h2, h3⟩ := numS_ok h0
    unfold countS at *
    rw [if_pos h0] at *
    by_cases hm : m < (numS r).1
    · rw [if_pos hm] at h; simp at h
    · rw [if_neg hm] at *
      exact ⟨h1, ⟨h2.1, by omega⟩, h3⟩
  · unfold countS at h; rw [if_neg h0] at h; exact absurd h h0
theorem timesS_ok {α : Type} {f : Rd → α × Rd} {P : α → Prop} {E : α → List UInt8} (hf : ∀ r, (f r).2.2 = 0 → r.2 = 0 ∧ P (f r).1 ∧ r.1 = E (f r).1 ++ (f r).2.1) : ∀ (k : Nat) (r : Rd), (timesS f k r).2.2 = 0 →
    r.2 = 0 ∧ (∀ x ∈ (timesS f k r).1, P x) ∧ (timesS f k r).1.length = k ∧ r.1 = (timesS f k r).1.flatMap E ++ (timesS f k r).2.1
  | 0, r, h => ⟨h, by simp [timesS], rfl, rfl⟩
  | k + 1, r, h => by
    obtain ⟨h1, h2, h3, h4⟩ := timesS_ok hf k (f r).2 h
    obtain ⟨g1, g2, g3⟩ := hf r h1
    refine ⟨g1, ?_, by rw [timesS, List.length_cons, h3], ?_⟩
    · intro x hx
      rcases List.mem_cons.1 hx with rfl | hx
      · exact g2
      · exact h2 x hx
    · rw [timesS, List.flatMap_cons, List.append_assoc]
      rw [← h4]; exact g3
theorem dotS_ok {r : Rd} (h : (dotS r).2.2 = 0) : r.2 = 0 ∧ True ∧ r.1 = dotB (dotS r).1 ++ (dotS r).2.1 := by
  obtain ⟨a1, _, a3⟩ := numS_ok (r := (numS (numS r).2).2) h
  obtain ⟨b1, _, b3⟩ := numS_ok (r := (numS r).2) a1
  obtain ⟨c1, _, c3⟩ := numS_ok (r := r) b1
  refine ⟨c1, trivial, ?_⟩
  show r.1 = numsB [(numS r).1, (numS (numS r).2).1, (numS (numS (numS r).2).2).1] ++ (numS (numS (numS r).2).2).2.1
  simp only [numsB_cons, numsB_nil, List.append_nil, List.append_assoc]
  rw [← a3, ← b3, ← c3]
theorem effS_ok {r : Rd} (h : (effS r).2.2 = 0) : r.2 = 0 ∧ okInt (effS r).1.n ∧ r.1 = effB (effS r).1 ++ (effS r).2.1 := by
  unfold effS at *
  simp only at *
  generalize ea : numS r = a at *
  generalize eb : textS a.2 = b at *
  generalize ec : textS b.2 = c at *
  generalize ed : numS c.2 = d at *
  generalize ee : textS d.2 = e at *
  generalize ef : intS e.2 = f at *
  generalize eg : countS 64 f.2 = g at *
  obtain ⟨h1, _, h3, h4⟩ := timesS_ok (P := fun _ => True) (E := dotB) (fun r hr => dotS_ok hr) g.1.toNat g.2 h
  generalize timesS dotS g.1.toNat g.2 = x at *
  have kg := countS_ok (m := 64) (r := f.2) (by rw [eg]; exact h1)
  rw [eg] at kg
  have kf := intS_ok (r := e.2) (by rw [ef]; exact kg.1)
  rw [ef] at kf
  have ke := textS_ok (r := d.2) (by rw [ee]; exact kf.1)
  rw [ee] at ke
  have kd := numS_ok (r := c.2) (by rw [ed]; exact ke.1)
  rw [ed] at kd
  have kc := textS_ok (r := b.2) (by rw [ec]; exact kd.1)
  rw [ec] at kc
  have kb := textS_ok (r := a.2) (by rw [eb]; exact kc.1)
  rw [eb] at kb
  have ka := numS_ok (r := r) (by rw [ea]; exact kb.1)
  rw [ea] at ka
  refine ⟨ka.1, kf.2.1, ?_⟩
  simp only [effB, List.append_assoc]
  rw [← h4, h3, show ((g.1.toNat : Nat) : Int) = g.1 by omega, ← kg.2.2, ← kf.2.2, ← ke.2, ← kd.2.2, ← kc.2, ← kb.2, ← ka.2.2]
theorem txnS_ok {r : Rd} (h : (txnS r).2.2 = 0) : r.2 = 0 ∧ (∀ e ∈ (txnS r).1.effs, okInt e.n) ∧ r.1 = txnB (txnS r).1 ++ (txnS r).2.1 := by
  unfold txnS at *
  simp only at *
  generalize ea : numS r = a at *
  generalize eb : numS a.2 = b at *
  generalize ec : countS 8 b.2 = c at *
  generalize ed : timesS numS c.1.toNat c.2 = d at *
  generalize ee : countS 8 d.2 = e at *
  obtain ⟨h1, h2, h3, h4⟩ := timesS_ok (P := fun x => okInt x.n) (E := effB) (fun r hr => effS_ok hr) e.1.toNat e.2 h
  generalize timesS effS e.1.toNat e.2 = x at *
  have ke := countS_ok (m := 8) (r := d.2) (by rw [ee]; exact h1)
  rw [ee] at ke
  have kd := timesS_ok (P := fun _ => True) (E := numB) (fun r hr => ⟨(numS_ok hr).1, trivial, (numS_ok hr).2.2⟩) c.1.toNat c.2 (by rw [ed]; exact ke.1)
  rw [ed] at kd
  have kc := countS_ok (m := 8) (r := b.2) (by rw [ec]; exact kd.1)
  rw [ec] at kc
  have kb := numS_ok (r := a.2) (by rw [eb]; exact kc.1)
  rw [eb] at kb
  have ka := numS_ok (r := r) (by rw [ea]; exact kb.1)
  rw [ea] at ka
  refine ⟨ka.1, h2, ?_⟩
  have hd : numsB d.1 = d.1.flatMap numB := rfl
  simp only [txnB, numsB_cons, numsB_nil, List.append_nil, List.append_assoc]
  rw [hd, ← h4, h3, show ((e.1.toNat : Nat) : Int) = e.1 by omega, ← ke.2.2, ← kd.2.2.2, kd.2.2.1, show ((c.1.toNat : Nat) : Int) = c.1 by omega, ← kc.2.2, ← kb.2.2, ← ka.2.2]
theorem read_ok {b : List UInt8} (h : readE b = 0) : formed (readT b) = true ∧ (∀ e ∈ (readT b).effs, okInt e.n) ∧ txnB (readT b) ++ readR b = b := by
  unfold readT readR
  rw [if_pos h, if_pos h]
  unfold readE at h
  by_cases h0 : (txnS (b, 0)).2.2 = 0
  · rw [if_pos h0] at h
    by_cases h1 : formed (txnS (b, 0)).1 = true
    · obtain ⟨_, h2, h3⟩ := txnS_ok h0
      exact ⟨h1, h2, h3.symm⟩
    · rw [if_neg h1] at h; simp at h
  · rw [if_neg h0] at h; exact absurd h h0
theorem read_put {t : Txn} (h : formed t = true) (hn : ∀ e ∈ t.effs, okInt e.n) (r : List UInt8) : readE (txnB t ++ r) = 0 ∧ readT (txnB t ++ r) = t ∧ readR (txnB t ++ r) = r := by
  have e := txnS_put h hn r
  have e0 : readE (txnB t ++ r) = 0 := by
    unfold readE
    rw [e]
    simp only [if_true, h]
  refine ⟨e0, ?_, ?_⟩
  · unfold readT; rw [if_pos e0, e]
  · unfold readR; rw [if_pos e0, e]

-- of a cut nothing is read
/-- A reader over a cut of the bytes. -/
def Cut (q : List UInt8) (s : Rd) : Prop := (s.2 = 0 ∧ ∃ k, k ≠ [] ∧ s.1 ++ k = q) ∨ s = ([], 3)
def CutOk {α : Type} (f : Rd → α × Rd) (B : List UInt8) (x : α) : Prop := ∀ r s, Cut (B ++ r) s → Cut r (f s).2 ∧ ((f s).2.2 = 0 → s.2 = 0 ∧ (f s).1 = x)
theorem rdNum_cut : ∀ (q i n : Nat) (p k : List UInt8), i ≤ 7 → q < 128 ^ (8 - i) → (0 < i → 0 < q) → p ++ k = numBytes q → k ≠ [] → rdNum i n p = .error 3 := by
  intro q
  induction q using Nat.strongRecOn with
  | _ q ih =>
    intro i n p k hi hq h0 hp hk
    cases p with
    | nil => rfl
    | cons x p =>
      by_cases h : q < 128
      · rw [numBytes_lt h] at hp
        simp only [List.cons_append, List.cons.injEq, List.append_eq_nil_iff] at hp
        exact absurd hp.2.2 hk
      · rw [numBytes_ge h] at hp
        simp only [List.cons_append, List.cons.injEq] at hp
        obtain ⟨rfl, hp⟩ := hp
        have e : (UInt8.ofNat (q % 128 + 128)).toNat = q % 128 + 128 := by rw [UInt8.toNat_ofNat']; omega
        have hi7 : i < 7 := by
          rcases Nat.lt_or_ge i 7 with h' | h'
          · exact h'
          · have : i = 7 := by omega
            subst this
            simp at hq; omega
        rw [rdNum, e, if_neg (by omega), if_neg (by omega)]
        refine ih (q / 128) (by omega) (i + 1) _ p k (by omega) ?_ (by omega) hp hk
        rw [show 8 - i = (8 - (i + 1)) + 1 by omega, Nat.pow_succ] at hq
        omega
/-- A cut of two parts is one of the first, or the first and a cut of the second. -/
theorem cut_parts {p k a r : List UInt8} (hk : k ≠ []) (h : p ++ k = a ++ r) : (∃ c, c ≠ [] ∧ p ++ c = a) ∨ ∃ p', p = a ++ p' ∧ p' ++ k = r := by
  rcases List.append_eq_append_iff.1 h with ⟨c, h1, h2⟩ | ⟨c, h1, h2⟩
  · cases c with
    | nil => exact .inr ⟨[], by simpa using h1.symm, by simpa using h2⟩
    | cons x c => exact .inl ⟨x :: c, by simp, h1.symm⟩
  · exact .inr ⟨c, h1, h2.symm⟩
theorem numS_cut {n : Int} (h : 0 ≤ n ∧ n ≤ 72057594037927935) : CutOk numS (numB n) n := by
  intro r s hs
  rcases hs with ⟨h0, k, hk, hp⟩ | rfl
  · obtain ⟨p, e⟩ := s
    simp only at h0 hp
    subst h0
    rcases cut_parts hk hp with ⟨c, hc, hpc⟩ | ⟨p', rfl, hp'⟩
    · have : numS (p, 0) = (0, [], 3) := by
        unfold numS
        rw [if_neg (by simp), rdNum_cut n.toNat 0 0 p c (by omega) (by omega) (by omega) hpc hc]
      rw [this]
      exact ⟨.inr rfl, fun h => by simp at h⟩
    · rw [numS_put h]
      exact ⟨.inl ⟨rfl, k, hk, hp'⟩, fun _ => ⟨rfl, rfl⟩⟩
  · exact ⟨.inr rfl, fun h => by simp [numS] at h⟩
theorem textS_cut {t : List UInt8} (h : t.length ≤ 65536) : CutOk textS (textB t) t := by
  intro r s hs
  rcases hs with ⟨h0, k, hk, hp⟩ | rfl
  · obtain ⟨p, e⟩ := s
    simp only at h0 hp
    subst h0
    rcases cut_parts hk hp with ⟨c, hc, hpc⟩ | ⟨p', rfl, hp'⟩
    · have : textS (p, 0) = ([], [], 3) := by
        have : rdText p = .error 3 := by
          unfold textB at hpc
          unfold rdText
          rcases cut_parts hc hpc with ⟨c', hc', hpc'⟩ | ⟨p', rfl, hp'⟩
          · rw [rdNum_cut t.length 0 0 p c' (by omega) (by omega) (by omega) hpc' hc']
          · rw [rdNum_put p' (by omega)]
            have hl := congrArg List.length hp'
            rw [List.length_append] at hl
            have : c.length ≠ 0 := fun e => hc (List.length_eq_zero_iff.1 e)
            simp only
            rw [if_neg (by omega), if_pos (by omega)]
        unfold textS
        rw [if_neg (by simp), this]
      rw [this]
      exact ⟨.inr rfl, fun h => by simp at h⟩
    · rw [textS_put h]
      exact ⟨.inl ⟨rfl, k, hk, hp'⟩, fun _ => ⟨rfl, rfl⟩⟩
  · exact ⟨.inr rfl, fun h => by simp [textS] at h⟩
theorem intS_cut {n : Int} (h : okInt n) : CutOk intS (int8B n) n := by
  intro r s hs
  rcases hs with ⟨h0, k, hk, hp⟩ | rfl
  · obtain ⟨p, e⟩ := s
    simp only at h0 hp
    subst h0
    rcases cut_parts hk hp with ⟨c, hc, hpc⟩ | ⟨p', rfl, hp'⟩
    · have : intS (p, 0) = (0, [], 3) := by
        have hl := congrArg List.length hpc
        rw [List.length_append, int8B_len] at hl
        have : c.length ≠ 0 := fun e => hc (List.length_eq_zero_iff.1 e)
        unfold intS
        rw [if_neg (by simp), if_pos (by simp only; omega)]
      rw [this]
      exact ⟨.inr rfl, fun h => by simp at h⟩
    · rw [intS_put h]
      exact ⟨.inl ⟨rfl, k, hk, hp'⟩, fun _ => ⟨rfl, rfl⟩⟩
  · exact ⟨.inr rfl, fun h => by simp [intS] at h⟩
theorem countS_cut {n m : Int} (h : 0 ≤ n ∧ n ≤ m) (hm : m ≤ 64) : CutOk (countS m) (numB n) n := by
  intro r s hs
  obtain ⟨h1, h2⟩ := numS_cut (n := n) ⟨h.1, by omega⟩ r s hs
  unfold countS
  by_cases h0 : (numS s).2.2 = 0
  · obtain ⟨g1, g2⟩ := h2 h0
    rw [if_pos h0, if_neg (by omega)]
    exact ⟨h1, fun _ => ⟨g1, g2⟩⟩
  · rw [if_neg h0]
    exact ⟨h1, fun h => absurd h h0⟩
theorem timesS_cut {α : Type} {f : Rd → α × Rd} {E : α → List UInt8} : ∀ (l : List α), (∀ x ∈ l, CutOk f (E x) x) → CutOk (timesS f l.length) (l.flatMap E) l
  | [], _ => fun r s hs => ⟨hs, fun h => ⟨h, rfl⟩⟩
  | x :: l, hx => fun r s hs => by
    rw [List.flatMap_cons, List.append_assoc] at hs
    obtain ⟨h1, h2⟩ := hx x (List.mem_cons_self ..) _ s hs
    obtain ⟨g1, g2⟩ := timesS_cut l (fun y hy => hx y (List.mem_cons_of_mem _ hy)) r _ h1
    refine ⟨g1, fun h => ?_⟩
    obtain ⟨k1, k2⟩ := g2 h
    obtain ⟨j1, j2⟩ := h2 k1
    refine ⟨j1, ?_⟩
    show (f s).1 :: (timesS f l.length (f s).2).1 = _
    rw [k2, j2]
theorem timesS_stuck {α : Type} {f : Rd → α × Rd} (hf : (f ([], 3)).2 = ([], 3)) : ∀ k, (timesS f k ([], 3)).2 = ([], 3)
  | 0 => rfl
  | k + 1 => by rw [timesS, hf]; exact timesS_stuck hf k
/-- A count, and as many. -/
theorem many_cut {α : Type} {f : Rd → α × Rd} {E : α → List UInt8} {m : Int} (hf : (f ([], 3)).2 = ([], 3)) {l : List α} (hl : (l.length : Int) ≤ m) (hm : m ≤ 64) (hx : ∀ x ∈ l, CutOk f (E x) x) :
    CutOk (fun r => timesS f (countS m r).1.toNat (countS m r).2) (numB l.length ++ l.flatMap E) l := by
  intro r s hs
  rw [List.append_assoc] at hs
  obtain ⟨h1, h2⟩ := countS_cut (n := (l.length : Int)) ⟨by omega, hl⟩ hm _ s hs
  simp only
  generalize countS m s = g at *
  by_cases h0 : g.2.2 = 0
  · obtain ⟨g1, g2⟩ := h2 h0
    rw [g2, Int.toNat_natCast]
    obtain ⟨k1, k2⟩ := timesS_cut l hx r g.2 h1
    exact ⟨k1, fun h => ⟨g1, (k2 h).2⟩⟩
  · have : g.2 = ([], 3) := by
      rcases h1 with ⟨h, _⟩ | h
      · exact absurd h h0
      · exact h
    rw [this, timesS_stuck hf]
    exact ⟨.inr rfl, fun h => by simp at h⟩
theorem dotS_cut {d : Dot} (h : dotOk d = true) : CutOk dotS (dotB d) d := by
  unfold dotOk at h
  rw [decide_eq_true_eq] at h
  intro r s hs
  unfold dotB at hs
  simp only [numsB_cons, numsB_nil, List.append_nil, List.append_assoc] at hs
  obtain ⟨a1, a2⟩ := numS_cut (n := d.node) (by omega) _ s hs
  obtain ⟨b1, b2⟩ := numS_cut (n := d.seq) (by omega) _ _ a1
  obtain ⟨c1, c2⟩ := numS_cut (n := d.at') (by omega) _ _ b1
  refine ⟨c1, fun h => ?_⟩
  obtain ⟨c3, c4⟩ := c2 h
  obtain ⟨b3, b4⟩ := b2 c3
  obtain ⟨a3, a4⟩ := a2 b3
  exact ⟨a3, Dot.ext a4 b4 c4⟩
theorem effS_eq (r : Rd) : effS r = (⟨(numS r).1, (textS (numS r).2).1, (textS (textS (numS r).2).2).1, (numS (textS (textS (numS r).2).2).2).1, (textS (numS (textS (textS (numS r).2).2).2).2).1, (intS (textS (numS (textS (textS (numS r).2).2).2).2).2).1,
    (timesS dotS (countS 64 (intS (textS (numS (textS (textS (numS r).2).2).2).2).2).2).1.toNat (countS 64 (intS (textS (numS (textS (textS (numS r).2).2).2).2).2).2).2).1⟩,
    (timesS dotS (countS 64 (intS (textS (numS (textS (textS (numS r).2).2).2).2).2).2).1.toNat (countS 64 (intS (textS (numS (textS (textS (numS r).2).2).2).2).2).2).2).2) := rfl
theorem txnS_eq (r : Rd) : txnS r = (⟨(numS r).1, (numS (numS r).2).1, (timesS numS (countS 8 (numS (numS r).2).2).1.toNat (countS 8 (numS (numS r).2).2).2).1,
    (timesS effS (countS 8 (timesS numS (countS 8 (numS (numS r).2).2).1.toNat (countS 8 (numS (numS r).2).2).2).2).1.toNat (countS 8 (timesS numS (countS 8 (numS (numS r).2).2).1.toNat (countS 8 (numS (numS r).2).2).2).2).2).1⟩,
    (timesS effS (countS 8 (timesS numS (countS 8 (numS (numS r).2).2).1.toNat (countS 8 (numS (numS r).2).2).2).2).1.toNat (countS 8 (timesS numS (countS 8 (numS (numS r).2).2).1.toNat (countS 8 (numS (numS r).2).2).2).2).2).2) := rfl
theorem effS_cut {node seq : Int} {e : Eff} (h : effOk node seq e = true) (hn : okInt e.n) : CutOk effS (effB e) e := by
  obtain ⟨h1, h2, h3, h4, h5, h6, h7, h8, h9⟩ := effOk_facts h
  intro r s hs
  rw [effS_eq]
  unfold effB at hs
  simp only [List.append_assoc] at hs
  obtain ⟨a1, a2⟩ := numS_cut (n := e.at') (by omega) _ s hs
  obtain ⟨b1, b2⟩ := textS_cut (t := e.key) (by omega) _ _ a1
  obtain ⟨c1, c2⟩ := textS_cut (t := e.field) (by omega) _ _ b1
  obtain ⟨d1, d2⟩ := numS_cut (n := e.kind) (by omega) _ _ c1
  obtain ⟨e1, e2⟩ := textS_cut (t := e.elem) (by omega) _ _ d1
  obtain ⟨f1, f2⟩ := intS_cut hn _ _ e1
  rw [← List.append_assoc] at f1
  obtain ⟨g1, g2⟩ := many_cut (f := dotS) (E := dotB) (m := 64) rfl (l := e.drops) (by omega) (by omega) (fun d hd => dotS_cut (h9 d hd)) r _ f1
  dsimp only at g1 g2 ⊢
  refine ⟨g1, fun h => ?_⟩
  obtain ⟨g3, g4⟩ := g2 h
  obtain ⟨f3, f4⟩ := f2 g3
  obtain ⟨e3, e4⟩ := e2 f3
  obtain ⟨d3, d4⟩ := d2 e3
  obtain ⟨c3, c4⟩ := c2 d3
  obtain ⟨b3, b4⟩ := b2 c3
  obtain ⟨a3, a4⟩ := a2 b3
  exact ⟨a3, by rw [a4, b4, c4, d4, e4, f4, g4]⟩
theorem txnS_cut {t : Txn} (h : formed t = true) (hn : ∀ e ∈ t.effs, okInt e.n) : CutOk txnS (txnB t) t := by
  obtain ⟨⟨h1, h2, h3, h4, h5, h6⟩, h7, h8⟩ := formed_facts h
  intro r s hs
  rw [txnS_eq]
  unfold txnB at hs
  simp only [numsB_cons, numsB_nil, List.append_nil, List.append_assoc] at hs
  obtain ⟨a1, a2⟩ := numS_cut (n := t.node) (by omega) _ s hs
  obtain ⟨b1, b2⟩ := numS_cut (n := t.seq) (by omega) _ _ a1
  rw [show numsB t.deps = t.deps.flatMap numB from rfl, ← List.append_assoc] at b1
  obtain ⟨c1, c2⟩ := many_cut (f := numS) (E := numB) (m := 8) rfl (l := t.deps) (by omega) (by omega) (fun n hn => numS_cut (by have := h7 n hn; omega)) _ _ b1
  rw [← List.append_assoc] at c1
  obtain ⟨d1, d2⟩ := many_cut (f := effS) (E := effB) (m := 8) rfl (l := t.effs) (by omega) (by omega) (fun e he => effS_cut (h8 e he) (hn e he)) r _ c1
  dsimp only at c1 c2 d1 d2 ⊢
  refine ⟨d1, fun h => ?_⟩
  obtain ⟨d3, d4⟩ := d2 h
  obtain ⟨c3, c4⟩ := c2 d3
  obtain ⟨b3, b4⟩ := b2 c3
  obtain ⟨a3, a4⟩ := a2 b3
  exact ⟨a3, by rw [a4, b4, c4, d4]⟩
theorem read_cut {t : Txn} (h : formed t = true) (hn : ∀ e ∈ t.effs, okInt e.n) {n : Nat} (hl : n < (txnB t).length) : readE ((txnB t).take n) = 3 ∧ readT ((txnB t).take n) = ⟨0, 0, [], []⟩ ∧ readR ((txnB t).take n) = [] := by
  have hc : Cut (txnB t ++ []) ((txnB t).take n, 0) := .inl ⟨rfl, (txnB t).drop n, fun e => by have := congrArg List.length e; simp at this; omega, by simp⟩
  obtain ⟨h1, _⟩ := txnS_cut h hn [] _ hc
  have e : (txnS ((txnB t).take n, 0)).2 = ([], 3) := by
    rcases h1 with ⟨_, k, hk, h2⟩ | h2
    · exact absurd (List.append_eq_nil_iff.1 h2).2 hk
    · exact h2
  have e3 : readE ((txnB t).take n) = 3 := by
    unfold readE
    rw [e]; simp
  refine ⟨e3, ?_, ?_⟩
  · unfold readT; rw [e3]; simp
  · unfold readR; rw [e3]; simp

end Go.Bv
namespace Go.Bv
set_option linter.unusedSimpArgs false
set_option linter.unusedVariables false
set_option maxHeartbeats 4000000
set_option maxRecDepth 20000
open Go Go.Proofs

def rdC (r : Rd) : AV := .agg [bytes r.1, i64 r.2]
theorem rNum_walk (r : Rd) (hb : r.1.length ≤ 2 ^ 46) : ACalls Try.prog Nm.txn_reader_num [.ptr 0 0 0] [.row .box (.agg 2) [rdC r]] (i64 (numS r).1) [.row .box (.agg 2) [rdC (numS r).2]] := by
  obtain ⟨b, e⟩ := r
  refine ACalls_of tab (dr_snd tab mixed) Nm.txn_reader_num_h rfl (by kernel_rfl) (Nat.le_of_ble_eq_true rfl) rfl ?_
  by_cases he : e = 0
  · subst he
    have h1 := num_walk b hb
    unfold numS
    rw [if_neg (by simp)]
    cases hr : rdNum 0 0 b with
    | error x =>
      rw [hr] at h1
      have h1 : ACalls Try.prog Nm.bin_Num [bytes b] [] (.tup [i64 0, bytes [], i64 x]) [] := h1
      refine ND.yes (by omega) ?_
      refine NCall.call (h1) rfl rfl ?_
      exact NRet.mk [] rfl ⟨.refl _, rfl⟩
    | ok p =>
      obtain ⟨n, q⟩ := p
      rw [hr] at h1
      have h1 : ACalls Try.prog Nm.bin_Num [bytes b] [] (.tup [i64 n, bytes q, i64 0]) [] := h1
      refine ND.yes (by omega) ?_
      refine NCall.call (h1) rfl rfl ?_
      exact NRet.mk [] rfl ⟨.refl _, rfl⟩
  · unfold numS
    rw [if_pos (by simpa using he)]
    refine ND.no (by omega) ?_
    exact NRet.mk [] rfl ⟨.refl _, rfl⟩
theorem rText_walk (r : Rd) (hb : r.1.length ≤ 2 ^ 46) : ACalls Try.prog Nm.txn_reader_text [.ptr 0 0 0] [.row .box (.agg 2) [rdC r]] (.str (textS r).1) [.row .box (.agg 2) [rdC (textS r).2]] := by
  obtain ⟨b, e⟩ := r
  refine ACalls_of tab (dr_snd tab mixed) Nm.txn_reader_text_h rfl (by kernel_rfl) (Nat.le_of_ble_eq_true rfl) rfl ?_
  by_cases he : e = 0
  · subst he
    have h1 := text_walk b hb
    unfold textS
    rw [if_neg (by simp)]
    cases hr : rdText b with
    | error x =>
      rw [hr] at h1
      have h1 : ACalls Try.prog Nm.bin_Text [bytes b] [] (.tup [.str [], bytes [], i64 x]) [] := h1
      refine ND.yes (by omega) ?_
      refine NCall.call (h1) rfl rfl ?_
      exact NRet.mk [] rfl ⟨.refl _, rfl⟩
    | ok p =>
      obtain ⟨n, q⟩ := p
      rw [hr] at h1
      have h1 : ACalls Try.prog Nm.bin_Text [bytes b] [] (.tup [.str n, bytes q, i64 0]) [] := h1
      refine ND.yes (by omega) ?_
      refine NCall.call (h1) rfl rfl ?_
      exact NRet.mk [] rfl ⟨.refl _, rfl⟩
  · unfold textS
    rw [if_pos (by simpa using he)]
    refine ND.no (by omega) ?_
    exact NRet.mk [] rfl ⟨.refl _, rfl⟩
theorem rInt_walk (r : Rd) (hb : r.1.length ≤ 2 ^ 46) : ACalls Try.prog Nm.txn_reader_int [.ptr 0 0 0] [.row .box (.agg 2) [rdC r]] (i64 (intS r).1) [.row .box (.agg 2) [rdC (intS r).2]] := by
  obtain ⟨b, e⟩ := r
  refine ACalls_of tab (dr_snd tab mixed) Nm.txn_reader_int_h rfl (by kernel_rfl) (Nat.le_of_ble_eq_true rfl) rfl ?_
  by_cases he : e = 0
  · subst he
    unfold intS
    rw [if_neg (by simp)]
    by_cases h8 : b.length < 8
    · have h1 := int_short b h8
      rw [if_pos h8]
      refine ND.yes (by omega) ?_
      refine NCall.call (h1) rfl rfl ?_
      exact NRet.mk [] rfl ⟨.refl _, rfl⟩
    · have h1 := int_walk b hb (by omega)
      rw [if_neg h8]
      refine ND.yes (by omega) ?_
      refine NCall.call (h1) rfl rfl ?_
      exact NRet.mk [] rfl ⟨.refl _, rfl⟩
  · unfold intS
    rw [if_pos (by simpa using he)]
    refine ND.no (by omega) ?_
    exact NRet.mk [] rfl ⟨.refl _, rfl⟩
theorem numS_len (r : Rd) : (numS r).2.1.length ≤ r.1.length := by
  unfold numS
  split
  · exact Nat.le_refl _
  · split
    · exact Nat.le_of_lt (rdNum_len _ _ ‹_›)
    · exact Nat.zero_le _
theorem rCount_walk (m : Int) (r : Rd) (hb : r.1.length ≤ 2 ^ 46) : ACalls Try.prog Nm.txn_reader_count [.ptr 0 0 0, i64 m] [.row .box (.agg 2) [rdC r]] (i64 (countS m r).1) [.row .box (.agg 2) [rdC (countS m r).2]] := by
  refine ACalls_of tab (dr_snd tab mixed) Nm.txn_reader_count_h rfl (by kernel_rfl) (Nat.le_of_ble_eq_true rfl) rfl ?_
  have h1 := rNum_walk r hb
  rw [countS]
  generalize numS r = x at *
  obtain ⟨n, q, e⟩ := x
  by_cases he : e = 0
  · subst he
    rw [if_pos rfl]
    by_cases hm : m < n
    · rw [if_pos hm]
      refine NCall.atA (h1) ?_
      refine ND.yes (by omega) ?_
      refine ND.yes (by omega) ?_
      refine ND.no (by omega) ?_
      exact NRet.mk [] rfl ⟨.refl _, rfl⟩
    · rw [if_neg hm]
      refine NCall.atA (h1) ?_
      refine ND.yes (by omega) ?_
      refine ND.no (by omega) ?_
      refine ND.yes (by omega) ?_
      exact NRet.mk [] rfl ⟨.refl _, rfl⟩
  · rw [if_neg he]
    refine NCall.atA (h1) ?_
    refine ND.no (by omega) ?_
    refine ND.no (by omega) ?_
    exact NRet.mk [] rfl ⟨.refl _, rfl⟩
theorem rdText_len {l s q : List UInt8} (h : rdText l = .ok (s, q)) : q.length ≤ l.length := by
  have := congrArg List.length (rdText_one h).2
  rw [List.length_append] at this; omega
theorem textS_len (r : Rd) : (textS r).2.1.length ≤ r.1.length := by
  unfold textS
  split
  · exact Nat.le_refl _
  · split
    · exact rdText_len ‹_›
    · exact Nat.zero_le _
theorem intS_len (r : Rd) : (intS r).2.1.length ≤ r.1.length := by
  unfold intS
  split
  · exact Nat.le_refl _
  · split
    · exact Nat.zero_le _
    · simp
theorem countS_len (m : Int) (r : Rd) : (countS m r).2.1.length ≤ r.1.length := by
  have := numS_len r
  unfold countS
  split
  · split <;> exact this
  · exact this
theorem countS_le (m : Int) (r : Rd) (hm : 0 ≤ m) : 0 ≤ (countS m r).1 ∧ (countS m r).1 ≤ m := by
  have h0 : 0 ≤ (numS r).1 := by
    unfold numS
    split
    · exact Int.le_refl _
    · split
      · exact Int.natCast_nonneg _
      · exact Int.le_refl _
  unfold countS
  split
  · split
    · exact ⟨Int.le_refl _, hm⟩
    · exact ⟨h0, by omega⟩
  · exact ⟨Int.le_refl _, hm⟩
theorem dotS_len (r : Rd) : (dotS r).2.1.length ≤ r.1.length := by
  have h1 := numS_len r
  have h2 := numS_len (numS r).2
  have h3 := numS_len (numS (numS r).2).2
  exact Nat.le_trans h3 (Nat.le_trans h2 h1)
theorem timesS_len {α : Type} {f : Rd → α × Rd} (hf : ∀ r, (f r).2.1.length ≤ r.1.length) : ∀ (k : Nat) (r : Rd), (timesS f k r).2.1.length ≤ r.1.length ∧ (timesS f k r).1.length = k
  | 0, _ => ⟨Nat.le_refl _, rfl⟩
  | k + 1, r => by
    obtain ⟨h1, h2⟩ := timesS_len hf k (f r).2
    exact ⟨Nat.le_trans h1 (hf r), by rw [timesS, List.length_cons, h2]⟩
theorem timesS_snoc {α : Type} (f : Rd → α × Rd) : ∀ (k : Nat) (r : Rd), (timesS f (k + 1) r).1 = (timesS f k r).1 ++ [(f (timesS f k r).2).1] ∧ (timesS f (k + 1) r).2 = (f (timesS f k r).2).2
  | 0, _ => ⟨rfl, rfl⟩
  | k + 1, r => by
    obtain ⟨h1, h2⟩ := timesS_snoc f k (f r).2
    exact ⟨by rw [timesS, h1]; rfl, by rw [timesS, h2]; rfl⟩
theorem rEff_walk (r : Rd) (hb : r.1.length ≤ 2 ^ 46) : ACalls Try.prog Nm.txn_reader_eff [.ptr 0 0 0] [.row .box (.agg 2) [rdC r]] (effA (effS r).1) [.row .box (.agg 2) [rdC (effS r).2]] := by
  refine ACalls_of tab (dr_snd tab mixed) Nm.txn_reader_eff_h rfl (by kernel_rfl) (Nat.le_of_ble_eq_true rfl) rfl ?_
  have h1 := rNum_walk r hb
  have l1 := numS_len r
  generalize e1 : numS r = a at *
  have h2 := rText_walk a.2 (by omega)
  have l2 := textS_len a.2
  generalize e2 : textS a.2 = b at *
  have h3 := rText_walk b.2 (by omega)
  have l3 := textS_len b.2
  generalize e3 : textS b.2 = c at *
  have h4 := rNum_walk c.2 (by omega)
  have l4 := numS_len c.2
  generalize e4 : numS c.2 = d at *
  have h5 := rText_walk d.2 (by omega)
  have l5 := textS_len d.2
  generalize e5 : textS d.2 = e at *
  have h6 := rInt_walk e.2 (by omega)
  have l6 := intS_len e.2
  generalize e6 : intS e.2 = f at *
  have h7 := rCount_walk 64 f.2 (by omega)
  have l7 := countS_len 64 f.2
  obtain ⟨b7, b7'⟩ := countS_le 64 f.2 (by omega)
  generalize e7 : countS 64 f.2 = g at *
  have hres : effS r = (⟨a.1, b.1, c.1, d.1, e.1, f.1, (timesS dotS g.1.toNat g.2).1⟩, (timesS dotS g.1.toNat g.2).2) := by
    simp only [effS, e1, e2, e3, e4, e5, e6, e7]
  rw [hres]
  refine NCall.subA [0] (h1) ?_
  refine NCall.subA [0] (h2) ?_
  refine NCall.subA [0] (h3) ?_
  refine NCall.subA [0] (h4) ?_
  refine NCall.subA [0] (h5) ?_
  refine NCall.subA [0] (h6) ?_
  refine NCall.subA [0] (h7) ?_
  refine NLoop.bm (.cons (sh := .agg 3) 2 6 rfl rfl (by decide) (.nil _)) [] [0, 2, 3, 18, 19] (fun m vs H => ∃ i, i ≤ g.1.toNat ∧ m = g.1.toNat - i ∧
    H = [.row .box (.agg 2) [rdC (timesS dotS i g.2).2], .row .box (.agg 7) [.agg [i64 0, .str [], .str [], i64 0, .str [], i64 0, .nils]], .row .box (.agg 7) [.agg [i64 a.1, .str b.1, .str c.1, i64 d.1, .str e.1, i64 f.1, .own 3 0 ((timesS dotS i g.2).1.map dotA).length]], .row .vrow (.agg 3) ((timesS dotS i g.2).1.map dotA)] ∧
    vs = [.ptr 0 0 0, .ptr 1 0 0, .ptr 2 0 0, i64 g.1, i64 i]) rfl ?_ ?_
  · exact Canon.mk [1, 2, 3] rfl ⟨g.1.toNat, 0, Nat.zero_le _, rfl, rfl, rfl⟩
  · rintro m vs H ⟨i, hi, rfl, rfl, rfl⟩
    obtain ⟨li, ki⟩ := timesS_len dotS_len i g.2
    by_cases hil : i < g.1.toNat
    · obtain ⟨s1, s2⟩ := timesS_snoc dotS i g.2
      generalize timesS dotS i g.2 = x at *
      have k1 := rNum_walk x.2 (by omega)
      have m1 := numS_len x.2
      have k2 := rNum_walk (numS x.2).2 (by omega)
      have m2 := numS_len (numS x.2).2
      have k3 := rNum_walk (numS (numS x.2).2).2 (by omega)
      refine ND.yes (by omega) ?_
      refine NP.mk (by kernel_rfl) ?_
      apply NDr.rd [2]
      · intro fH TH
        exact ⟨rfl, rfl⟩
      apply NDr.rd [2]
      · intro fH TH
        exact ⟨rfl, rfl⟩
      apply NDr.any
      · intro H'
        exact ⟨rfl, rfl⟩
      apply NDr.efw [0]
      · refine NCall.subA [0] (k1) ?_
        exact ⟨rfl, rfl⟩
      · repeat (first | exact True.intro | refine ⟨by first | exact rfl | exact True.intro, ?_⟩)
      apply NDr.any
      · intro H'
        exact ⟨rfl, rfl⟩
      apply NDr.efw [0]
      · refine NCall.subA [0] (k2) ?_
        exact ⟨rfl, rfl⟩
      · repeat (first | exact True.intro | refine ⟨by first | exact rfl | exact True.intro, ?_⟩)
      apply NDr.any
      · intro H'
        exact ⟨rfl, rfl⟩
      apply NDr.efw [0]
      · refine NCall.subA [0] (k3) ?_
        exact ⟨rfl, rfl⟩
      · repeat (first | exact True.intro | refine ⟨by first | exact rfl | exact True.intro, ?_⟩)
      apply NDr.pure
      · exact ⟨rfl, rfl⟩
      apply NDr.pure
      · exact ⟨rfl, rfl⟩
      apply NDr.efw [3]
      · refine NFz.own ?_
        refine NApp.endA rfl (by simp; omega) ?_
        exact ⟨rfl, rfl⟩
      · repeat (first | exact True.intro | refine ⟨by first | exact rfl | exact True.intro, ?_⟩)
      apply NDr.rd [2]
      · intro fH TH
        exact ⟨rfl, rfl⟩
      apply NDr.efw [2]
      · exact ⟨rfl, rfl⟩
      · repeat (first | exact True.intro | refine ⟨by first | exact rfl | exact True.intro, ?_⟩)
      refine NP.mk (by kernel_rfl) ?_
      refine NW.i64 (by omega) (by omega) ?_
      exact Canon.mk [1, 2, 4] rfl ⟨g.1.toNat - (i + 1), by omega, i + 1, by omega, rfl, by rw [s1, s2, List.map_append]; rfl, rfl⟩
    · have : i = g.1.toNat := by omega
      subst this
      refine ND.no (by omega) ?_
      exact NRet.mk [] rfl (NFrz.mk ((timesS dotS g.1.toNat g.2).1.map dotA) (by simp) (by rw [List.drop_zero, List.take_of_length_le (by simp)]) ⟨.refl _, rfl⟩)
end Go.Bv
namespace Go.Bv
set_option linter.unusedSimpArgs false
set_option linter.unusedVariables false
set_option maxHeartbeats 4000000
set_option maxRecDepth 20000
open Go Go.Proofs

theorem effS_len (r : Rd) : (effS r).2.1.length ≤ r.1.length := by
  rw [effS_eq]
  exact Nat.le_trans (timesS_len dotS_len _ _).1 (Nat.le_trans (countS_len _ _) (Nat.le_trans (intS_len _) (Nat.le_trans (textS_len _) (Nat.le_trans (numS_len _) (Nat.le_trans (textS_len _) (Nat.le_trans (textS_len _) (numS_len _)))))))
theorem textS_sm (r : Rd) : (textS r).1.length ≤ 65536 := by
  unfold textS
  split
  · exact Nat.zero_le _
  · split
    · exact (rdText_one ‹_›).1
    · exact Nat.zero_le _
theorem effS_sm (r : Rd) : smEff (effS r).1 := by
  rw [effS_eq]
  refine ⟨Nat.le_trans (textS_sm _) (by decide), Nat.le_trans (textS_sm _) (by decide), Nat.le_trans (textS_sm _) (by decide), ?_⟩
  simp only
  rw [(timesS_len dotS_len _ _).2]
  have := countS_le 64 (intS (textS (numS (textS (textS (numS r).2).2).2).2).2).2 (by omega)
  omega
theorem timesS_mem {α : Type} {f : Rd → α × Rd} {P : α → Prop} (hf : ∀ r, P (f r).1) : ∀ (k : Nat) (r : Rd), ∀ x ∈ (timesS f k r).1, P x
  | 0, _, x, h => by cases h
  | k + 1, r, x, h => by
    rcases List.mem_cons.1 h with rfl | h
    · exact hf r
    · exact timesS_mem hf k _ x h
theorem numS_int (r : Rd) : 0 ≤ (numS r).1 ∧ (numS r).1 ≤ 72057594037927935 := by
  unfold numS
  split
  · simp
  · split
    · have := (rdNum_one ‹_›).1
      simp only; omega
    · simp
theorem read_walk (b : List UInt8) (hb : b.length ≤ 2 ^ 45) : ACalls Try.prog Nm.txn_Read [bytes b] [] (.tup [txnA (readT b), bytes (readR b), i64 (readE b)]) [] := by
  refine ACalls_of tab (dr_snd tab mixed) Nm.txn_Read_h rfl (by kernel_rfl) (Nat.le_of_ble_eq_true rfl) rfl ?_
  have h1 := rNum_walk (b, 0) (by simp; omega)
  have l1 := numS_len (b, 0)
  generalize e1 : numS (b, 0) = a at *
  simp only at l1
  have h2 := rNum_walk a.2 (by omega)
  have l2 := numS_len a.2
  generalize e2 : numS a.2 = c at *
  have h3 := rCount_walk 8 c.2 (by omega)
  have l3 := countS_len 8 c.2
  obtain ⟨b3, b3'⟩ := countS_le 8 c.2 (by omega)
  generalize e3 : countS 8 c.2 = d at *
  refine NCall.subA [1] (h1) ?_
  refine NCall.subA [1] (h2) ?_
  refine NCall.subA [1] (h3) ?_
  refine NLoop.bm (.cons (sh := .leaf) 2 2 rfl rfl (by decide) (.nil _)) [] [2, 5, 6, 16, 17] (fun m vs H => ∃ i, i ≤ d.1.toNat ∧ m = d.1.toNat - i ∧
    H = [.row .box (.agg 4) [.agg [i64 0, i64 0, .nils, .nils]], .row .box (.agg 2) [rdC (timesS numS i d.2).2], .row .box (.agg 4) [.agg [i64 a.1, i64 c.1, .own 3 0 ((timesS numS i d.2).1.map i64).length, .nils]], .row .vrow .leaf ((timesS numS i d.2).1.map i64)] ∧
    vs = [.ptr 0 0 0, .ptr 1 0 0, .ptr 2 0 0, i64 d.1, i64 i]) rfl ?_ ?_
  · exact Canon.mk [0, 1, 2, 3] rfl ⟨d.1.toNat, 0, Nat.zero_le _, rfl, rfl, rfl⟩
  rintro m vs H ⟨i, hi, rfl, rfl, rfl⟩
  obtain ⟨li, ki⟩ := timesS_len numS_len i d.2
  by_cases hil : i < d.1.toNat
  · obtain ⟨s1, s2⟩ := timesS_snoc numS i d.2
    generalize timesS numS i d.2 = x at *
    have k1 := rNum_walk x.2 (by omega)
    refine ND.yes (by omega) ?_
    refine NP.mk (by kernel_rfl) ?_
    apply NDr.rd [2]
    · intro fH TH
      exact ⟨rfl, rfl⟩
    apply NDr.rd [2]
    · intro fH TH
      exact ⟨rfl, rfl⟩
    apply NDr.any
    · intro H'
      exact ⟨rfl, rfl⟩
    apply NDr.efw [1]
    · refine NCall.subA [1] (k1) ?_
      exact ⟨rfl, rfl⟩
    · repeat (first | exact True.intro | refine ⟨by first | exact rfl | exact True.intro, ?_⟩)
    apply NDr.pure
    · exact ⟨rfl, rfl⟩
    apply NDr.efw [3]
    · refine NFz.own ?_
      refine NApp.endA rfl (by simp; omega) ?_
      exact ⟨rfl, rfl⟩
    · repeat (first | exact True.intro | refine ⟨by first | exact rfl | exact True.intro, ?_⟩)
    apply NDr.rd [2]
    · intro fH TH
      exact ⟨rfl, rfl⟩
    apply NDr.efw [2]
    · exact ⟨rfl, rfl⟩
    · repeat (first | exact True.intro | refine ⟨by first | exact rfl | exact True.intro, ?_⟩)
    refine NP.mk (by kernel_rfl) ?_
    refine NW.i64 (by omega) (by omega) ?_
    exact Canon.mk [0, 1, 2, 4] rfl ⟨d.1.toNat - (i + 1), by omega, i + 1, by omega, rfl, by rw [s1, s2, List.map_append]; rfl, rfl⟩
  have : i = d.1.toNat := by omega
  subst this
  generalize e4 : timesS numS d.1.toNat d.2 = x at *
  have h5 := rCount_walk 8 x.2 (by omega)
  have l5 := countS_len 8 x.2
  obtain ⟨b5, b5'⟩ := countS_le 8 x.2 (by omega)
  generalize e5 : countS 8 x.2 = y at *
  refine ND.no (by omega) ?_
  refine NCall.subA [1] (h5) ?_
  refine NLoop.bm (.cons (sh := .agg 7) 2 3 rfl rfl (by decide) (.nil _)) [] [2, 5, 6, 28, 29] (fun m vs H => ∃ i, i ≤ y.1.toNat ∧ m = y.1.toNat - i ∧
    H = [.row .box (.agg 4) [.agg [i64 0, i64 0, .nils, .nils]], .row .box (.agg 2) [rdC (timesS effS i y.2).2], .row .box (.agg 4) [.agg [i64 a.1, i64 c.1, .own 3 0 (x.1.map i64).length, .own 4 0 ((timesS effS i y.2).1.map effA).length]], .row .vrow .leaf (x.1.map i64), .row .vrow (.agg 7) ((timesS effS i y.2).1.map effA)] ∧
    vs = [.ptr 0 0 0, .ptr 1 0 0, .ptr 2 0 0, i64 y.1, i64 i]) rfl ?_ ?_
  · exact Canon.mk [0, 1, 2, 3, 4] rfl ⟨y.1.toNat, 0, Nat.zero_le _, rfl, rfl, rfl⟩
  rintro m vs H ⟨i, hi', rfl, rfl, rfl⟩
  obtain ⟨li', ki'⟩ := timesS_len effS_len i y.2
  by_cases hil' : i < y.1.toNat
  · obtain ⟨s1, s2⟩ := timesS_snoc effS i y.2
    generalize timesS effS i y.2 = z at *
    have k1 := rEff_walk z.2 (by omega)
    generalize effS z.2 = w at *
    refine ND.yes (by omega) ?_
    refine NP.mk (by kernel_rfl) ?_
    apply NDr.rd [2]
    · intro fH TH
      exact ⟨rfl, rfl⟩
    apply NDr.rd [2]
    · intro fH TH
      exact ⟨rfl, rfl⟩
    apply NDr.any
    · intro H'
      exact ⟨rfl, rfl⟩
    apply NDr.efw [1]
    · refine NCall.subA [1] (k1) ?_
      exact ⟨rfl, rfl⟩
    · repeat (first | exact True.intro | refine ⟨by first | exact rfl | exact True.intro, ?_⟩)
    apply NDr.pure
    · exact ⟨rfl, rfl⟩
    apply NDr.efw [4]
    · refine NFz.own ?_
      refine NApp.endA rfl (by simp; omega) ?_
      exact ⟨rfl, rfl⟩
    · repeat (first | exact True.intro | refine ⟨by first | exact rfl | exact True.intro, ?_⟩)
    apply NDr.rd [2]
    · intro fH TH
      exact ⟨rfl, rfl⟩
    apply NDr.efw [2]
    · exact ⟨rfl, rfl⟩
    · repeat (first | exact True.intro | refine ⟨by first | exact rfl | exact True.intro, ?_⟩)
    refine NP.mk (by kernel_rfl) ?_
    refine NW.i64 (by omega) (by omega) ?_
    exact Canon.mk [0, 1, 2, 3, 5] rfl ⟨y.1.toNat - (i + 1), by omega, i + 1, by omega, rfl, by rw [s1, s2, List.map_append]; rfl, rfl⟩
  have : i = y.1.toNat := by omega
  subst this
  have hq : ∀ e ∈ (timesS effS y.1.toNat y.2).1, smEff e := timesS_mem effS_sm _ _
  have hs : okInt c.1 := by have := numS_int a.2; rw [e2] at this; unfold okInt; omega
  generalize e6 : timesS effS y.1.toNat y.2 = z at *
  have hT : txnS (b, 0) = (⟨a.1, c.1, x.1, z.1⟩, z.2) := by rw [txnS_eq, e1, e2, e3, e4, e5, e6]
  have h6 := formed_walk ⟨a.1, c.1, x.1, z.1⟩ ⟨hs, by simp only; omega, by simp only; omega, hq⟩
  have h7 := cloneB_list z.2.1 (by omega)
  by_cases hz : z.2.2 = 0
  · cases hf : formed ⟨a.1, c.1, x.1, z.1⟩ with
    | true =>
      have eE : readE b = 0 := by unfold readE; rw [hT]; simp only [hz, hf, if_true]
      have eT : readT b = ⟨a.1, c.1, x.1, z.1⟩ := by unfold readT; rw [if_pos eE, hT]
      have eR : readR b = z.2.1 := by unfold readR; rw [if_pos eE, hT]
      rw [eE, eT, eR]
      rw [hf] at h6
      refine ND.no (by omega) ?_
      refine ND.yes (by omega) ?_
      refine NCall.lend h6 (.cons (.agg (.cons (.same _) (.cons (.same _) (.cons (.own trivial rfl (by simp) (by simp) (by rw [List.drop_zero, List.take_of_length_le (by simp)])) (.cons (.own trivial rfl (by simp) (by simp) (by rw [List.drop_zero, List.take_of_length_le (by simp)])) .nil))))) .nil) rfl rfl ?_
      refine ND.yes (by omega) ?_
      refine NP.mk (by kernel_rfl) ?_
      apply NDr.rd [2]
      · intro fH TH
        exact ⟨rfl, rfl⟩
      apply NDr.any
      · intro H'
        exact ⟨rfl, rfl⟩
      apply NDr.rd [1]
      · intro fH TH
        exact ⟨rfl, rfl⟩
      apply NDr.rd [1]
      · intro fH TH
        exact ⟨rfl, rfl⟩
      apply NDr.rd [1]
      · intro fH TH
        exact ⟨rfl, rfl⟩
      apply NDr.pure
      · refine NCall.call (h7) rfl rfl ?_
        exact ⟨rfl, rfl⟩
      apply NDr.efw [0]
      · exact ⟨rfl, rfl⟩
      · repeat (first | exact True.intro | refine ⟨by first | exact rfl | exact True.intro, ?_⟩)
      apply NDr.pure
      · exact ⟨rfl, rfl⟩
      apply NDr.pure
      · exact ⟨rfl, rfl⟩
      refine NP.mk (by kernel_rfl) ?_
      exact NRet.mk [] rfl (NFrz.mk (x.1.map i64) (by simp) (by rw [List.drop_zero, List.take_of_length_le (by simp)]) (NFrz.mk (z.1.map effA) (by simp) (by rw [List.drop_zero, List.take_of_length_le (by simp)]) ⟨.refl _, rfl⟩))
    | false =>
      have eE : readE b = 2 := by unfold readE; rw [hT]; simp [hz, hf]
      have eT : readT b = ⟨0, 0, [], []⟩ := by unfold readT; rw [eE]; simp
      have eR : readR b = [] := by unfold readR; rw [eE]; simp
      rw [eE, eT, eR]
      rw [hf] at h6
      refine ND.no (by omega) ?_
      refine ND.yes (by omega) ?_
      refine NCall.lend h6 (.cons (.agg (.cons (.same _) (.cons (.same _) (.cons (.own trivial rfl (by simp) (by simp) (by rw [List.drop_zero, List.take_of_length_le (by simp)])) (.cons (.own trivial rfl (by simp) (by simp) (by rw [List.drop_zero, List.take_of_length_le (by simp)])) .nil))))) .nil) rfl rfl ?_
      refine ND.no (by omega) ?_
      refine NP.mk (by kernel_rfl) ?_
      apply NDr.pure
      · exact ⟨rfl, rfl⟩
      apply NDr.any
      · intro H'
        exact ⟨rfl, rfl⟩
      apply NDr.rd [1]
      · intro fH TH
        exact ⟨rfl, rfl⟩
      apply NDr.rd [1]
      · intro fH TH
        exact ⟨rfl, rfl⟩
      apply NDr.rd [1]
      · intro fH TH
        exact ⟨rfl, rfl⟩
      apply NDr.rd [0]
      · intro fH TH
        exact ⟨rfl, rfl⟩
      apply NDr.pure
      · exact ⟨rfl, rfl⟩
      apply NDr.pure
      · exact ⟨rfl, rfl⟩
      refine NP.mk (by kernel_rfl) ?_
      exact NRet.mk [] rfl ⟨by repeat (first | exact LeA.refl _ | exact LeA.nils _ | refine LeA.agg ?_ | refine LeA.tup ?_ | exact LeAs.nil | refine LeAs.cons ?_ ?_), rfl⟩
  · have eE : readE b = z.2.2 := by unfold readE; rw [hT, if_neg hz]
    have eT : readT b = ⟨0, 0, [], []⟩ := by unfold readT; rw [if_neg (by omega)]
    have eR : readR b = [] := by unfold readR; rw [if_neg (by omega)]
    rw [eE, eT, eR]
    refine ND.no (by omega) ?_
    refine ND.no (by omega) ?_
    refine ND.no (by omega) ?_
    refine NP.mk (by kernel_rfl) ?_
    apply NDr.pure
    · exact ⟨rfl, rfl⟩
    apply NDr.any
    · intro H'
      exact ⟨rfl, rfl⟩
    apply NDr.rd [1]
    · intro fH TH
      exact ⟨rfl, rfl⟩
    apply NDr.rd [1]
    · intro fH TH
      exact ⟨rfl, rfl⟩
    apply NDr.rd [1]
    · intro fH TH
      exact ⟨rfl, rfl⟩
    apply NDr.rd [0]
    · intro fH TH
      exact ⟨rfl, rfl⟩
    apply NDr.pure
    · exact ⟨rfl, rfl⟩
    apply NDr.pure
    · exact ⟨rfl, rfl⟩
    refine NP.mk (by kernel_rfl) ?_
    exact NRet.mk [] rfl ⟨by repeat (first | exact LeA.refl _ | exact LeA.nils _ | refine LeA.agg ?_ | refine LeA.tup ?_ | exact LeAs.nil | refine LeAs.cons ?_ ?_), rfl⟩
end Go.Bv
namespace Go.Bv
open Go Go.Proofs

-- what is under a zone
theorem effsOnly_sub (l : List Eff) (z : List (List UInt8)) : (effsOnly l z).Sublist l := List.filter_sublist
theorem formed_only {t : Txn} (h : formed t = true) (z : List (List UInt8)) : formed { t with effs := effsOnly t.effs z } = true := by
  unfold formed at *
  simp only [Bool.and_eq_true, decide_eq_true_eq] at *
  obtain ⟨⟨h1, h2, h3, h4, h5, h6⟩, h7, h8, h9, h10⟩ := h
  have hs := effsOnly_sub t.effs z
  refine ⟨⟨h1, h2, h3, h4, h5, Nat.le_trans hs.length_le h6⟩, h7, h8, ?_, ?_⟩
  · unfold effsOk at *
    simp only [Bool.and_eq_true, List.all_eq_true] at *
    have ht : ∀ a b c : Eff, decide (a.at' < b.at') = true → decide (b.at' < c.at') = true → decide (a.at' < c.at') = true := fun a b c h1 h2 => by
      simp only [decide_eq_true_eq] at *; omega
    refine ⟨fun e he => h9.1 e (hs.subset he), ?_⟩
    rw [adj_pw ht] at *
    exact h9.2.sublist hs
  · unfold heardB at *
    simp only [List.all_eq_true] at *
    exact fun e he => h10 e (hs.subset he)
theorem effsOnly_comm (l : List Eff) (y z : List (List UInt8)) : effsOnly (effsOnly l y) z = effsOnly (effsOnly l z) y := by
  unfold effsOnly
  rw [List.filter_filter, List.filter_filter]
  congr 1; funext e; rw [Bool.and_comm]
end Go.Bv
namespace Go.Bv
set_option linter.unusedSimpArgs false
set_option linter.unusedVariables false
set_option maxHeartbeats 4000000
set_option maxRecDepth 20000
open Go Go.Proofs

theorem num13_walk (b : List UInt8) (n : Int) (hb : b.length ≤ 2 ^ 45) (hn : 0 ≤ n ∧ n ≤ 72057594037927935) : ACalls Try.prog Nm.ref13_num [.own 0 0 b.length, i64 n] [.row .vrow .leaf (b.map u8)] (.own 1 0 (b ++ numB n).length) [.dead, .row .vrow .leaf ((b ++ numB n).map u8)] := by
  refine ACalls_of tab (dr_snd tab mixed) Nm.ref13_num_h rfl (by kernel_rfl) (Nat.le_of_ble_eq_true rfl) rfl ?_
  have h1 := refNum_list n.toNat (by omega)
  rw [show ((n.toNat : Nat) : Int) = n by omega] at h1
  have h2 := numB_len hn
  unfold numB at *
  refine NCall.call (h1) rfl rfl ?_
  refine NFz.own ?_
  refine NApp.endA (by simp) (by simp; omega) ?_
  rw [(mapApp _ _ _)]
  exact NRet.mk [1] rfl ⟨by rw [List.length_map]; exact .refl _, rfl⟩
theorem num13_nil (n : Int) (hn : 0 ≤ n ∧ n ≤ 72057594037927935) : ACalls Try.prog Nm.ref13_num [.nils, i64 n] [] (.own 0 0 (numB n).length) [.row .vrow .leaf ((numB n).map u8)] := by
  refine ACalls_of tab (dr_snd tab mixed) Nm.ref13_num_h rfl (by kernel_rfl) (Nat.le_of_ble_eq_true rfl) rfl ?_
  have h1 := refNum_list n.toNat (by omega)
  rw [show ((n.toNat : Nat) : Int) = n by omega] at h1
  have h2 := numB_len hn
  unfold numB at *
  refine NCall.call (h1) rfl rfl ?_
  refine NFz.own ?_
  refine NP.mk (by (simp only [List.length_map, List.length_append, List.length_replicate, List.length_cons, List.length_nil, List.length_take, List.length_drop]; omega)) ?_
  exact NRet.mk [0] rfl ⟨by rw [List.length_map]; exact .refl _, rfl⟩
theorem text13_walk (b s : List UInt8) (hb : b.length ≤ 2 ^ 45) (hs : s.length ≤ 65536) : ACalls Try.prog Nm.ref13_text [.own 0 0 b.length, .str s] [.row .vrow .leaf (b.map u8)] (.own 1 0 (b ++ textB s).length) [.dead, .row .vrow .leaf ((b ++ textB s).map u8)] := by
  refine ACalls_of tab (dr_snd tab mixed) Nm.ref13_text_h rfl (by kernel_rfl) (Nat.le_of_ble_eq_true rfl) rfl ?_
  have h1 := refText_walk s hs
  have h2 := textB_len hs
  unfold textB at *
  rw [List.length_append] at h2
  refine NCall.call (h1) rfl rfl ?_
  refine NFz.own ?_
  refine NApp.endA (by simp) (by simp; omega) ?_
  rw [(mapApp _ _ _)]
  exact NRet.mk [1] rfl ⟨by rw [List.length_map]; exact .refl _, rfl⟩
theorem begins8_walk (s p : List UInt8) (hs : s.length ≤ 2 ^ 47) : ACalls Try.prog Nm.ref08_Begins [.str s, .str p] [] (.bool (begins s p)) [] := by
  refine ACalls_of tab (dr_snd tab mixed) Nm.ref08_Begins_h rfl (by kernel_rfl) (Nat.le_of_ble_eq_true rfl) rfl ?_
  unfold begins
  by_cases h1 : p.length ≤ s.length
  · refine ND.no (by omega) ?_
    refine NLoop.mk [] [0, 1, 5] (fun m vs H => ∃ i, i ≤ p.length ∧ m = p.length - i ∧ s.take i = p.take i ∧ H = [] ∧ vs = [.str s, .str p, i64 i]) rfl ?_ ?_
    · exact Canon.mk [] rfl ⟨p.length, 0, Nat.zero_le _, rfl, rfl, rfl, rfl⟩
    · rintro m vs H ⟨i, hi, rfl, ht, rfl, rfl⟩
      by_cases hil : i < p.length
      · have his : i < s.length := by omega
        by_cases he : s[i] = p[i]
        · refine ND.yes (by omega) ?_
          refine NP.mk (by kernel_rfl) ?_
          apply NDr.pure
          · exact ⟨rfl, rfl⟩
          apply NDr.pure
          · exact ⟨rfl, rfl⟩
          apply NDr.pure
          · refine NP.mk (by omega) ?_
            exact ⟨rfl, rfl⟩
          apply NDr.pure
          · exact ⟨rfl, rfl⟩
          apply NDr.pure
          · exact ⟨rfl, rfl⟩
          apply NDr.pure
          · refine NP.mk (by omega) ?_
            exact ⟨rfl, rfl⟩
          apply NDr.pure
          · exact NB.det'
          refine NP.mk (by kernel_rfl) ?_
          refine NB.no (by simp [*]) ?_
          refine NW.i64 (by omega) (by omega) ?_
          exact Canon.mk [] rfl ⟨p.length - (i + 1), by omega, i + 1, by omega, rfl, take_eq_next ht his hil he, rfl, rfl⟩
        · rw [decide_eq_false fun h => he (by
            have := congrArg (fun l => l[i]?) h
            simp only [List.getElem?_take, hil, if_true, List.getElem?_eq_getElem his, List.getElem?_eq_getElem hil] at this
            exact Option.some.inj this)]
          have he' : ¬ ((s[i].toNat : Int) = p[i].toNat) := fun h => he (UInt8.toNat_inj.1 (by omega))
          refine ND.yes (by omega) ?_
          refine NP.mk (by kernel_rfl) ?_
          apply NDr.pure
          · exact ⟨rfl, rfl⟩
          apply NDr.pure
          · exact ⟨rfl, rfl⟩
          apply NDr.pure
          · refine NP.mk (by omega) ?_
            exact ⟨rfl, rfl⟩
          apply NDr.pure
          · exact ⟨rfl, rfl⟩
          apply NDr.pure
          · exact ⟨rfl, rfl⟩
          apply NDr.pure
          · refine NP.mk (by omega) ?_
            exact ⟨rfl, rfl⟩
          apply NDr.pure
          · exact NB.det'
          refine NP.mk (by kernel_rfl) ?_
          refine NB.yes (by simp [*]) ?_
          exact NRet.mk [] rfl ⟨.refl _, rfl⟩
      · have : i = p.length := by omega
        subst this
        rw [decide_eq_true (by rw [ht, List.take_length])]
        refine ND.no (by omega) ?_
        exact NRet.mk [] rfl ⟨.refl _, rfl⟩
  · rw [decide_eq_false (fun h => h1 (by rw [← h, List.length_take]; omega))]
    refine ND.yes (by omega) ?_
    exact NRet.mk [] rfl ⟨.refl _, rfl⟩
theorem covers8_walk (z : List (List UInt8)) (k : List UInt8) (hz : z.length ≤ 2 ^ 40) (hk : k.length ≤ 2 ^ 47) : ACalls Try.prog Nm.ref08_Covers [strsA z, .str k] [] (.bool (z.any (begins k))) [] := by
  refine ACalls_of tab (dr_snd tab mixed) Nm.ref08_Covers_h rfl (by kernel_rfl) (Nat.le_of_ble_eq_true rfl) rfl ?_
  refine NLoop.mk [] [0, 1, 5] (fun m vs H => ∃ i, i ≤ z.length ∧ m = z.length - i ∧ (∀ x ∈ z.take i, begins k x = false) ∧ H = [] ∧ vs = [strsA z, .str k, i64 i]) rfl ?_ ?_
  · exact Canon.mk [] rfl ⟨z.length, 0, Nat.zero_le _, rfl, by simp, rfl, rfl⟩
  · rintro m vs H ⟨i, hi, rfl, ht, rfl, rfl⟩
    by_cases hil : i < z.length
    · have hb := begins8_walk k z[i] hk
      cases hp : begins k z[i] with
      | true =>
        rw [hp] at hb
        rw [List.any_eq_true.2 ⟨_, List.getElem_mem hil, hp⟩]
        refine ND.yes (by (simp only [List.length_map, List.length_append, List.length_replicate, List.length_cons, List.length_nil, List.length_take, List.length_drop]; omega)) ?_
        refine NP.mk (by omega) ?_
        refine NG.mapN (by omega) ?_
        refine NCall.call (hb) rfl rfl ?_
        exact NRet.mk [] rfl ⟨.refl _, rfl⟩
      | false =>
        rw [hp] at hb
        refine ND.yes (by (simp only [List.length_map, List.length_append, List.length_replicate, List.length_cons, List.length_nil, List.length_take, List.length_drop]; omega)) ?_
        refine NP.mk (by omega) ?_
        refine NG.mapN (by omega) ?_
        refine NCall.call (hb) rfl rfl ?_
        refine NW.i64 (by omega) (by omega) ?_
        exact Canon.mk [] rfl ⟨z.length - (i + 1), by omega, i + 1, by omega, rfl, (find_step hil ht).2 hp, rfl, rfl⟩
    · have : i = z.length := by omega
      subst this
      rw [List.take_length] at ht
      rw [List.any_eq_false.2 fun x hx => by rw [ht x hx]; simp]
      refine ND.no (by (simp only [List.length_map, List.length_append, List.length_replicate, List.length_cons, List.length_nil, List.length_take, List.length_drop]; omega)) ?_
      exact NRet.mk [] rfl ⟨.refl _, rfl⟩
theorem short8_walk (l : List (List UInt8)) (hl : l.length ≤ 2 ^ 47) (hx : ∀ e ∈ l, e.length ≤ reachBytes) : ACalls Try.prog Nm.ref08_Short [strsA l] [] (.bool (decide (l.length ≤ 60) && l.all fun e => decide (e.length ≤ 200))) [] := by
  refine ACalls_of tab (dr_snd tab mixed) Nm.ref08_Short_h rfl (by kernel_rfl) (Nat.le_of_ble_eq_true rfl) rfl ?_
  by_cases h : l.length ≤ 60
  · rw [decide_eq_true h, Bool.true_and]
    refine ND.no (by (simp only [List.length_map, List.length_append, List.length_replicate, List.length_cons, List.length_nil, List.length_take, List.length_drop]; omega)) ?_
    refine NLoop.mk [] [0, 3] (fun m vs H => ∃ i, i ≤ l.length ∧ m = l.length - i ∧ (∀ x ∈ l.take i, decide (x.length ≤ 200) = true) ∧ H = [] ∧ vs = [strsA l, i64 i]) rfl ?_ ?_
    · exact Canon.mk [] rfl ⟨l.length, 0, Nat.zero_le _, rfl, by simp, rfl, rfl⟩
    · rintro m vs H ⟨i, hi, rfl, ht, rfl, rfl⟩
      by_cases hil : i < l.length
      · obtain ⟨f1, f2⟩ := all_step (p := fun x : List UInt8 => decide (x.length ≤ 200)) hil ht
        have hr := reach_lt (hx _ (List.getElem_mem hil))
        by_cases hp : l[i].length ≤ 200
        · refine ND.yes (by (simp only [List.length_map, List.length_append, List.length_replicate, List.length_cons, List.length_nil, List.length_take, List.length_drop]; omega)) ?_
          refine NP.mk (by omega) ?_
          refine NG.mapN (by omega) ?_
          refine ND.no (by omega) ?_
          refine NW.i64 (by omega) (by omega) ?_
          exact Canon.mk [] rfl ⟨l.length - (i + 1), by omega, i + 1, by omega, rfl, f2 (decide_eq_true hp), rfl, rfl⟩
        · rw [f1 (decide_eq_false hp)]
          refine ND.yes (by (simp only [List.length_map, List.length_append, List.length_replicate, List.length_cons, List.length_nil, List.length_take, List.length_drop]; omega)) ?_
          refine NP.mk (by omega) ?_
          refine NG.mapN (by omega) ?_
          refine ND.yes (by omega) ?_
          exact NRet.mk [] rfl ⟨.refl _, rfl⟩
      · have : i = l.length := by omega
        subst this
        rw [all_end ht]
        refine ND.no (by (simp only [List.length_map, List.length_append, List.length_replicate, List.length_cons, List.length_nil, List.length_take, List.length_drop]; omega)) ?_
        exact NRet.mk [] rfl ⟨.refl _, rfl⟩
  · rw [decide_eq_false h, Bool.false_and]
    refine ND.yes (by (simp only [List.length_map, List.length_append, List.length_replicate, List.length_cons, List.length_nil, List.length_take, List.length_drop]; omega)) ?_
    exact NRet.mk [] rfl ⟨.refl _, rfl⟩
theorem only10_walk (l : List Eff) (z : List (List UInt8)) (hl : l.length ≤ 2 ^ 38) (hz : z.length ≤ 2 ^ 40) (hx : ∀ e ∈ l, smEff e) : ACalls Try.prog Nm.ref10_Only [effsA l, strsA z] [] (effsA (effsOnly l z)) [] := by
  refine ACalls_of tab (dr_snd tab mixed) Nm.ref10_Only_h rfl (by kernel_rfl) (Nat.le_of_ble_eq_true rfl) rfl ?_
  refine NLoop.mk [(5, .agg 7)] [0, 1, 5, 6] (fun m vs H => ∃ i, i ≤ l.length ∧ m = l.length - i ∧ H = [.row .vrow (.agg 7) ((effsOnly (l.take i) z).map effA)] ∧ vs = [effsA l, strsA z, .own 0 0 ((effsOnly (l.take i) z).map effA).length, i64 i]) rfl ?_ ?_
  · exact Canon.mk [0] rfl ⟨l.length, 0, Nat.zero_le _, rfl, rfl, rfl⟩
  · rintro m vs H ⟨i, hi, rfl, rfl, rfl⟩
    by_cases hil : i < l.length
    · have hc := covers8_walk z l[i].key hz (by have := (hx _ (List.getElem_mem hil)).1; omega)
      have hft := filter_take (fun e : Eff => z.any (begins e.key)) l hil
      have hfl : (effsOnly (l.take i) z).length ≤ 2 ^ 38 := by
        unfold effsOnly
        refine Nat.le_trans (List.length_filter_le _ _) ?_
        rw [List.length_take]; omega
      cases hp : z.any (begins l[i].key) with
      | true =>
        rw [hp] at hc
        rw [hp, if_pos rfl] at hft
        refine ND.yes (by (simp only [List.length_map, List.length_append, List.length_replicate, List.length_cons, List.length_nil, List.length_take, List.length_drop]; omega)) ?_
        refine NP.mk (by omega) ?_
        refine NG.mapN (by omega) ?_
        refine NCall.call (hc) rfl rfl ?_
        refine NP.mk (by omega) ?_
        refine NG.mapN (by omega) ?_
        refine NFz.own ?_
        refine NApp.endA rfl (by simp; omega) ?_
        refine NW.i64 (by omega) (by omega) ?_
        exact Canon.mk [1] rfl ⟨l.length - (i + 1), by omega, i + 1, by omega, rfl, by unfold effsOnly; rw [hft, List.map_append]; rfl, by unfold effsOnly; rw [hft, List.map_append]; rfl⟩
      | false =>
        rw [hp] at hc
        rw [hp, if_neg (by simp)] at hft
        refine ND.yes (by (simp only [List.length_map, List.length_append, List.length_replicate, List.length_cons, List.length_nil, List.length_take, List.length_drop]; omega)) ?_
        refine NP.mk (by omega) ?_
        refine NG.mapN (by omega) ?_
        refine NCall.call (hc) rfl rfl ?_
        refine NW.i64 (by omega) (by omega) ?_
        exact Canon.mk [0] rfl ⟨l.length - (i + 1), by omega, i + 1, by omega, rfl, by unfold effsOnly; rw [hft], by unfold effsOnly; rw [hft]; rfl⟩
    · have : i = l.length := by omega
      subst this
      rw [List.take_length]
      refine ND.no (by (simp only [List.length_map, List.length_append, List.length_replicate, List.length_cons, List.length_nil, List.length_take, List.length_drop]; omega)) ?_
      exact NRet.mk [] rfl (NFrz.mk ((effsOnly l z).map effA) (by simp) (by rw [List.drop_zero, List.take_of_length_le (by simp)]) ⟨.refl _, rfl⟩)
theorem only13_walk (t : Txn) (z : List (List UInt8)) (ht : smTxn t) (hz : z.length ≤ 2 ^ 40) : ACalls Try.prog Nm.ref13_Only [txnA t, strsA z] [] (txnA (onlyT t z)) [] := by
  refine ACalls_of tab (dr_snd tab mixed) Nm.ref13_Only_h rfl (by kernel_rfl) (Nat.le_of_ble_eq_true rfl) rfl ?_
  refine NCall.call (only10_walk t.effs z (by have := ht.2.2.1; omega) hz ht.2.2.2) rfl rfl ?_
  exact NRet.mk [] rfl ⟨.refl _, rfl⟩
theorem bytes13_walk (t : Txn) (ht : smTxn t) (hf : formed t = true) : ACalls Try.prog Nm.ref13_Bytes [txnA t] [] (.own 0 0 (txnB t).length) [.row .vrow .leaf ((txnB t).map u8)] := by
  refine ACalls_of tab (dr_snd tab mixed) Nm.ref13_Bytes_h rfl (by kernel_rfl) (Nat.le_of_ble_eq_true rfl) rfl ?_
  obtain ⟨⟨f1, f2, f3, f4, f5, f6⟩, f7, f8⟩ := formed_facts hf
  have k1 := num13_nil t.node (by omega)
  have k2 := num13_walk (numB t.node) t.seq (by have := numB_len (n := t.node) (by omega); omega) (by omega)
  have k3 := num13_walk (numB t.node ++ numB t.seq) (t.deps.length : Int) (by have := numB_len (n := t.node) (by omega); have := numB_len (n := t.seq) (by omega); rw [List.length_append]; omega) (by omega)
  refine NP.mk (by kernel_rfl) ?_
  apply NDr.rd [0]
  · intro fH TH
    exact ⟨rfl, rfl⟩
  apply NDr.rd [0]
  · intro fH TH
    exact ⟨rfl, rfl⟩
  apply NDr.efw []
  · refine NCall.atA (ACalls.frame (k1) rfl _) ?_
    exact ⟨rfl, rfl⟩
  · repeat (first | exact True.intro | refine ⟨by first | exact rfl | exact True.intro, ?_⟩)
  apply NDr.rd [0]
  · intro fH TH
    exact ⟨rfl, rfl⟩
  apply NDr.rd [0]
  · intro fH TH
    exact ⟨rfl, rfl⟩
  apply NDr.efw [1]
  · refine NCall.subA [1] (k2) ?_
    exact ⟨rfl, rfl⟩
  · repeat (first | exact True.intro | refine ⟨by first | exact rfl | exact True.intro, ?_⟩)
  apply NDr.rd [0]
  · intro fH TH
    exact ⟨rfl, rfl⟩
  apply NDr.rd [0]
  · intro fH TH
    exact ⟨rfl, rfl⟩
  apply NDr.pure
  · exact ⟨rfl, rfl⟩
  apply NDr.efw [2]
  · refine NCall.eq (by simp only [List.length_map] <;> exact rfl) ?_
    refine NCall.subA [2] (k3) ?_
    exact ⟨rfl, rfl⟩
  · repeat (first | exact True.intro | refine ⟨by first | exact rfl | exact True.intro, ?_⟩)
  apply NDr.any
  · intro H'
    exact ⟨rfl, rfl⟩
  refine NP.mk (by kernel_rfl) ?_
  have n2 := numsB_len (l := t.deps) (fun n hn => by have := f7 n hn; omega)
  obtain ⟨b1, e1⟩ : ∃ c, c = numB t.node ++ numB t.seq ++ numB (t.deps.length : Int) := ⟨_, rfl⟩
  obtain ⟨b2, e2⟩ : ∃ c, c = b1 ++ numsB t.deps := ⟨_, rfl⟩
  obtain ⟨b3, e3⟩ : ∃ c, c = b2 ++ numB (t.effs.length : Int) := ⟨_, rfl⟩
  have l1 : b1.length ≤ 24 := by
    have := numB_len (n := t.node) (by omega)
    have := numB_len (n := t.seq) (by omega)
    have := numB_len (n := (t.deps.length : Int)) (by omega)
    rw [e1, List.length_append, List.length_append]; omega
  have l2 := congrArg List.length e2
  have l3 := congrArg List.length e3
  rw [List.length_append] at l2 l3
  have n3 := numB_len (n := (t.effs.length : Int)) (by omega)
  have efin : b3 ++ t.effs.flatMap effB = txnB t := by
    rw [e3, e2, e1]
    simp only [txnB, numsB_cons, numsB_nil, List.append_nil, List.append_assoc]
  rw [← e1]
  refine NLoop.mk [] [1, 3, 4] (fun m vs H => ∃ i, i ≤ t.deps.length ∧ m = t.deps.length - i ∧ H = [.row .box (.agg 4) [txnA t], .row .vrow .leaf ((b1 ++ numsB (t.deps.take i)).map u8)] ∧ vs = [.ptr 0 0 0, .own 1 0 (b1 ++ numsB (t.deps.take i)).length, i64 i]) rfl ?_ ?_
  · exact Canon.mk [0, 3] rfl ⟨t.deps.length, 0, Nat.zero_le _, rfl, by rw [List.take_zero, numsB_nil, List.append_nil]; rfl, by rw [List.take_zero, numsB_nil, List.append_nil]; rfl⟩
  rintro m vs H ⟨i, hi, rfl, rfl, rfl⟩
  by_cases hil : i < t.deps.length
  · have hn := numsB_len (l := t.deps.take i) (fun n hn => by have := f7 n (List.mem_of_mem_take hn); omega)
    rw [List.length_take] at hn
    have h1 := num13_walk (b1 ++ numsB (t.deps.take i)) t.deps[i] (by rw [List.length_append]; omega) (by have := f7 _ (List.getElem_mem hil); omega)
    have e : b1 ++ numsB (t.deps.take i) ++ numB t.deps[i] = b1 ++ numsB (t.deps.take (i + 1)) := by
      rw [List.append_assoc, ← numsB_snoc, List.take_succ_eq_append_getElem hil]
    rw [e] at h1
    refine ND.yes (by (simp only [List.length_map, List.length_append, List.length_replicate, List.length_cons, List.length_nil, List.length_take, List.length_drop]; omega)) ?_
    refine NP.mk (by omega) ?_
    refine NG.mapN (by omega) ?_
    refine NCall.subA [1] (h1) ?_
    refine NW.i64 (by omega) (by omega) ?_
    exact Canon.mk [0, 2] rfl ⟨t.deps.length - (i + 1), by omega, i + 1, by omega, rfl, rfl, rfl⟩
  have : i = t.deps.length := by omega
  subst this
  rw [List.take_length, ← e2]
  have h1 := num13_walk b2 (t.effs.length : Int) (by omega) (by omega)
  rw [← e3] at h1
  refine ND.no (by (simp only [List.length_map, List.length_append, List.length_replicate, List.length_cons, List.length_nil, List.length_take, List.length_drop]; omega)) ?_
  refine NCall.eq (by simp only [List.length_map] <;> exact rfl) ?_
  refine NCall.subA [1] (h1) ?_
  refine NLoop.mk [] [1, 3, 5] (fun m vs H => ∃ i, i ≤ t.effs.length ∧ m = t.effs.length - i ∧ H = [.row .box (.agg 4) [txnA t], .row .vrow .leaf ((b3 ++ (t.effs.take i).flatMap effB).map u8)] ∧ vs = [.ptr 0 0 0, .own 1 0 (b3 ++ (t.effs.take i).flatMap effB).length, i64 i]) rfl ?_ ?_
  · exact Canon.mk [0, 2] rfl ⟨t.effs.length, 0, Nat.zero_le _, rfl, by rw [List.take_zero, List.flatMap_nil, List.append_nil]; rfl, by rw [List.take_zero, List.flatMap_nil, List.append_nil]; rfl⟩
  rintro m vs H ⟨i, hi, rfl, rfl, rfl⟩
  by_cases hil : i < t.effs.length
  · have hfx := effOk_facts (f8 _ (List.getElem_mem hil))
    have hbl := effsB_len (l := t.effs.take i) (fun n hn => f8 n (List.mem_of_mem_take hn))
    rw [List.length_take] at hbl
    have hsn := flatMap_snoc effB t.effs hil
    obtain ⟨c0, hc0⟩ : ∃ c, c = b3 ++ (t.effs.take i).flatMap effB := ⟨_, rfl⟩
    have lc0 := congrArg List.length hc0
    rw [List.length_append] at lc0
    rw [← hc0]
    have hnext : c0 ++ effB t.effs[i] = b3 ++ (t.effs.take (i + 1)).flatMap effB := by rw [hsn, hc0, List.append_assoc]
    rw [← (steps c0 t.effs[i]).eff] at hnext
    have hl := (steps c0 t.effs[i]).lens hfx
    have hs1 := (steps c0 t.effs[i]).h1
    have hs2 := (steps c0 t.effs[i]).h2
    have hs3 := (steps c0 t.effs[i]).h3
    have hs4 := (steps c0 t.effs[i]).h4
    have hs5 := (steps c0 t.effs[i]).h5
    have hs6 := (steps c0 t.effs[i]).h6
    have hs7 := (steps c0 t.effs[i]).h7
    generalize (steps c0 t.effs[i]).c1 = c1, (steps c0 t.effs[i]).c2 = c2, (steps c0 t.effs[i]).c3 = c3, (steps c0 t.effs[i]).c4 = c4, (steps c0 t.effs[i]).c5 = c5, (steps c0 t.effs[i]).c6 = c6, (steps c0 t.effs[i]).c7 = c7 at *
    obtain ⟨x1, x2, x3, x4, x5, x6, x7, x8, x9⟩ := hfx
    rw [show numsB [t.effs[i].at'] = numB t.effs[i].at' by simp [numsB]] at hs1
    rw [show numsB [t.effs[i].kind] = numB t.effs[i].kind by simp [numsB]] at hs4
    rw [show numsB [(t.effs[i].drops.length : Int)] = numB (t.effs[i].drops.length : Int) by simp [numsB]] at hs7
    have m1 := num13_walk c0 t.effs[i].at' (by omega) (by omega)
    have m2 := text13_walk c1 t.effs[i].key (by omega) (by omega)
    have m3 := text13_walk c2 t.effs[i].field (by omega) (by omega)
    have m4 := num13_walk c3 t.effs[i].kind (by omega) (by omega)
    have m5 := text13_walk c4 t.effs[i].elem (by omega) (by omega)
    have m6 := refInt_walk t.effs[i].n
    have m7 := num13_walk c6 (t.effs[i].drops.length : Int) (by omega) (by omega)
    rw [← hs1] at m1
    rw [← hs2] at m2
    rw [← hs3] at m3
    rw [← hs4] at m4
    rw [← hs5] at m5
    rw [← hs7] at m7
    have q6 : (intBytes (u64of t.effs[i].n) 8).length = 8 := intBytes_len _ _
    have hs6 : c5 ++ intBytes (u64of t.effs[i].n) 8 = c6 := hs6.symm
    refine ND.yes (by (simp only [List.length_map, List.length_append, List.length_replicate, List.length_cons, List.length_nil, List.length_take, List.length_drop]; omega)) ?_
    refine NP.mk (by omega) ?_
    refine NG.mapN (by omega) ?_
    refine NP.mk (by kernel_rfl) ?_
    apply NDr.any
    · intro H'
      exact ⟨rfl, rfl⟩
    apply NDr.rd [2]
    · intro fH TH
      exact ⟨rfl, rfl⟩
    apply NDr.rd [2]
    · intro fH TH
      exact ⟨rfl, rfl⟩
    apply NDr.efw [1]
    · refine NCall.subA [1] (m1) ?_
      exact ⟨rfl, rfl⟩
    · repeat (first | exact True.intro | refine ⟨by first | exact rfl | exact True.intro, ?_⟩)
    apply NDr.rd [2]
    · intro fH TH
      exact ⟨rfl, rfl⟩
    apply NDr.rd [2]
    · intro fH TH
      exact ⟨rfl, rfl⟩
    apply NDr.efw [3]
    · refine NCall.subA [3] (m2) ?_
      exact ⟨rfl, rfl⟩
    · repeat (first | exact True.intro | refine ⟨by first | exact rfl | exact True.intro, ?_⟩)
    apply NDr.rd [2]
    · intro fH TH
      exact ⟨rfl, rfl⟩
    apply NDr.rd [2]
    · intro fH TH
      exact ⟨rfl, rfl⟩
    apply NDr.efw [4]
    · refine NCall.subA [4] (m3) ?_
      exact ⟨rfl, rfl⟩
    · repeat (first | exact True.intro | refine ⟨by first | exact rfl | exact True.intro, ?_⟩)
    apply NDr.rd [2]
    · intro fH TH
      exact ⟨rfl, rfl⟩
    apply NDr.rd [2]
    · intro fH TH
      exact ⟨rfl, rfl⟩
    apply NDr.efw [5]
    · refine NCall.subA [5] (m4) ?_
      exact ⟨rfl, rfl⟩
    · repeat (first | exact True.intro | refine ⟨by first | exact rfl | exact True.intro, ?_⟩)
    apply NDr.rd [2]
    · intro fH TH
      exact ⟨rfl, rfl⟩
    apply NDr.rd [2]
    · intro fH TH
      exact ⟨rfl, rfl⟩
    apply NDr.efw [6]
    · refine NCall.subA [6] (m5) ?_
      exact ⟨rfl, rfl⟩
    · repeat (first | exact True.intro | refine ⟨by first | exact rfl | exact True.intro, ?_⟩)
    apply NDr.any
    · intro H'
      exact ⟨rfl, rfl⟩
    refine NP.mk (by kernel_rfl) ?_
    refine NP.mk (by kernel_rfl) ?_
    apply NDr.any
    · intro H'
      exact ⟨rfl, rfl⟩
    apply NDr.rd [2]
    · intro fH TH
      exact ⟨rfl, rfl⟩
    apply NDr.rd [2]
    · intro fH TH
      exact ⟨rfl, rfl⟩
    apply NDr.pure
    · refine NCall.call (m6) rfl rfl ?_
      exact ⟨rfl, rfl⟩
    apply NDr.efw [7]
    · refine NFz.own ?_
      refine NApp.endA (by simp) (by simp; omega) ?_
      exact ⟨rfl, rfl⟩
    · repeat (first | exact True.intro | refine ⟨by first | exact rfl | exact True.intro, ?_⟩)
    apply NDr.rd [2]
    · intro fH TH
      exact ⟨rfl, rfl⟩
    apply NDr.rd [2]
    · intro fH TH
      exact ⟨rfl, rfl⟩
    apply NDr.pure
    · exact ⟨rfl, rfl⟩
    apply NDr.efw [8]
    · rw [(mapApp _ _ _)]
      rw [(hs6)]
      refine NCall.eq (by simp only [List.length_map] <;> exact rfl) ?_
      refine NCall.subA [8] (m7) ?_
      exact ⟨rfl, rfl⟩
    · repeat (first | exact True.intro | refine ⟨by first | exact rfl | exact True.intro, ?_⟩)
    apply NDr.any
    · intro H'
      exact ⟨rfl, rfl⟩
    refine NP.mk (by kernel_rfl) ?_
    refine NLoop.mk [] [1, 3, 5, 6, 7] (fun m vs H => ∃ j, j ≤ t.effs[i].drops.length ∧ m = t.effs[i].drops.length - j ∧ H = [.row .box (.agg 4) [txnA t], .row .box (.agg 7) [effA t.effs[i]], .row .vrow .leaf ((c7 ++ (t.effs[i].drops.take j).flatMap dotB).map u8)] ∧
      vs = [.ptr 0 0 0, .own 2 0 (c7 ++ (t.effs[i].drops.take j).flatMap dotB).length, i64 i, .ptr 1 0 0, i64 j]) rfl ?_ ?_
    · exact Canon.mk [0, 2, 9] rfl ⟨t.effs[i].drops.length, 0, Nat.zero_le _, rfl, by rw [List.take_zero, List.flatMap_nil, List.append_nil]; rfl, by rw [List.take_zero, List.flatMap_nil, List.append_nil]; rfl⟩
    rintro m vs H ⟨j, hj, rfl, rfl, rfl⟩
    by_cases hjl : j < t.effs[i].drops.length
    · have hdl := dotsB_len (l := t.effs[i].drops.take j) (fun d hd => x9 d (List.mem_of_mem_take hd))
      rw [List.length_take] at hdl
      have hdo := dotB_ok (x9 _ (List.getElem_mem hjl))
      simp only [List.mem_cons, List.not_mem_nil, or_false, forall_eq_or_imp, forall_eq] at hdo
      obtain ⟨o1, o2, o3⟩ := hdo
      have hds := flatMap_snoc dotB t.effs[i].drops hjl
      obtain ⟨d0, hd0⟩ : ∃ c, c = c7 ++ (t.effs[i].drops.take j).flatMap dotB := ⟨_, rfl⟩
      obtain ⟨d1, hd1⟩ : ∃ c, c = d0 ++ numB t.effs[i].drops[j].node := ⟨_, rfl⟩
      obtain ⟨d2, hd2⟩ : ∃ c, c = d1 ++ numB t.effs[i].drops[j].seq := ⟨_, rfl⟩
      have w0 := congrArg List.length hd0
      have w1 := congrArg List.length hd1
      have w2 := congrArg List.length hd2
      rw [List.length_append] at w0 w1 w2
      have v1 := numB_len o1
      have v2 := numB_len o2
      have q1 := num13_walk d0 t.effs[i].drops[j].node (by omega) o1
      have q2 := num13_walk d1 t.effs[i].drops[j].seq (by omega) o2
      have q3 := num13_walk d2 t.effs[i].drops[j].at' (by omega) o3
      have hd3 : d2 ++ numB t.effs[i].drops[j].at' = c7 ++ (t.effs[i].drops.take (j + 1)).flatMap dotB := by
        rw [hds, hd2, hd1, hd0]
        simp only [dotB, numsB_cons, numsB_nil, List.append_nil, List.append_assoc]
      rw [← hd1] at q1
      rw [← hd2] at q2
      rw [hd3] at q3
      rw [← hd0]
      refine ND.yes (by (simp only [List.length_map, List.length_append, List.length_replicate, List.length_cons, List.length_nil, List.length_take, List.length_drop]; omega)) ?_
      refine NP.mk (by kernel_rfl) ?_
      apply NDr.any
      · intro H'
        exact ⟨rfl, rfl⟩
      apply NDr.rd [1]
      · intro fH TH
        exact ⟨rfl, rfl⟩
      apply NDr.rd [1]
      · intro fH TH
        exact ⟨rfl, rfl⟩
      apply NDr.pure
      · exact ⟨rfl, rfl⟩
      apply NDr.pure
      · refine NP.mk (by omega) ?_
        refine NG.mapN (by omega) ?_
        exact ⟨rfl, rfl⟩
      apply NDr.pure
      · exact ⟨rfl, rfl⟩
      apply NDr.pure
      · exact ⟨rfl, rfl⟩
      apply NDr.efw [2]
      · refine NCall.subA [2] (q1) ?_
        exact ⟨rfl, rfl⟩
      · repeat (first | exact True.intro | refine ⟨by first | exact rfl | exact True.intro, ?_⟩)
      apply NDr.rd [1]
      · intro fH TH
        exact ⟨rfl, rfl⟩
      apply NDr.rd [1]
      · intro fH TH
        exact ⟨rfl, rfl⟩
      apply NDr.pure
      · exact ⟨rfl, rfl⟩
      apply NDr.pure
      · refine NP.mk (by omega) ?_
        refine NG.mapN (by omega) ?_
        exact ⟨rfl, rfl⟩
      apply NDr.pure
      · exact ⟨rfl, rfl⟩
      apply NDr.pure
      · exact ⟨rfl, rfl⟩
      apply NDr.efw [3]
      · refine NCall.subA [3] (q2) ?_
        exact ⟨rfl, rfl⟩
      · repeat (first | exact True.intro | refine ⟨by first | exact rfl | exact True.intro, ?_⟩)
      apply NDr.rd [1]
      · intro fH TH
        exact ⟨rfl, rfl⟩
      apply NDr.rd [1]
      · intro fH TH
        exact ⟨rfl, rfl⟩
      apply NDr.pure
      · exact ⟨rfl, rfl⟩
      apply NDr.pure
      · refine NP.mk (by omega) ?_
        refine NG.mapN (by omega) ?_
        exact ⟨rfl, rfl⟩
      apply NDr.pure
      · exact ⟨rfl, rfl⟩
      apply NDr.pure
      · exact ⟨rfl, rfl⟩
      apply NDr.efw [4]
      · refine NCall.subA [4] (q3) ?_
        exact ⟨rfl, rfl⟩
      · repeat (first | exact True.intro | refine ⟨by first | exact rfl | exact True.intro, ?_⟩)
      apply NDr.any
      · intro H'
        exact ⟨rfl, rfl⟩
      refine NP.mk (by kernel_rfl) ?_
      refine NW.i64 (by omega) (by omega) ?_
      exact Canon.mk [0, 1, 5] rfl ⟨t.effs[i].drops.length - (j + 1), by omega, j + 1, by omega, rfl, rfl, rfl⟩
    · have : j = t.effs[i].drops.length := by omega
      subst this
      rw [List.take_length, hnext]
      refine ND.no (by (simp only [List.length_map, List.length_append, List.length_replicate, List.length_cons, List.length_nil, List.length_take, List.length_drop]; omega)) ?_
      refine NW.i64 (by omega) (by omega) ?_
      exact Canon.mk [0, 2] rfl ⟨t.effs.length - (i + 1), by omega, i + 1, by omega, rfl, rfl, rfl⟩
  · have : i = t.effs.length := by omega
    subst this
    rw [List.take_length, efin]
    refine ND.no (by (simp only [List.length_map, List.length_append, List.length_replicate, List.length_cons, List.length_nil, List.length_take, List.length_drop]; omega)) ?_
    exact NRet.mk [1] rfl ⟨.refl _, rfl⟩
end Go.Bv
namespace Go.Bv
set_option linter.unusedSimpArgs false
set_option linter.unusedVariables false
set_option maxHeartbeats 4000000
open Go Go.Proofs

theorem shortT_sm {l : List Txn} (h : shortT l = true) (ho : ∀ t ∈ l, okTxn t) : l.length ≤ 24 ∧ ∀ t ∈ l, smTxn t := by
  unfold shortT at h
  rw [Bool.and_eq_true, List.all_eq_true] at h
  refine ⟨of_decide_eq_true h.1, fun t ht => ?_⟩
  have := h.2 t ht
  rw [Bool.and_eq_true] at this
  obtain ⟨h1, h2⟩ := this
  have h1 := of_decide_eq_true h1
  unfold shortEs at h2
  rw [Bool.and_eq_true, List.all_eq_true] at h2
  have h3 := of_decide_eq_true h2.1
  refine ⟨(ho t ht).2.1, by omega, by omega, fun e he => ?_⟩
  have := of_decide_eq_true (h2.2 e he)
  exact ⟨by omega, by omega, by omega, by omega⟩
theorem short1_sm {t : Txn} (h : shortT [t] = true) (ho : okTxn t) : smTxn t := (shortT_sm h (by simpa using ho)).2 t (by simp)
theorem takeT_sm {v : List Int} {l : List Txn} (h : ∀ t ∈ l, smTxn t) : ∀ t ∈ (takeT v l).1, smTxn t := fun t ht => h t (takeT_mem ht)
theorem nexts_len : ∀ (l : List Txn) (v : List Int), (nexts v l).length ≤ max v.length 8
  | [], v => by rw [nexts_nil]; omega
  | t :: r, v => by
    rw [nexts_cons]
    have := nexts_len r (next v t)
    have := next_len v t
    omega
theorem takeT_vlen (v : List Int) (l : List Txn) : (takeT v l).2.length ≤ max v.length 8 := by
  rw [takeT_nexts]; exact nexts_len _ _
theorem okV {v : List Int} (h : v.length ≤ reachBytes) : v.length ≤ 2 ^ 47 := by have := reach_lt h; omega

end Go.Bv
namespace Go.Bv
set_option linter.unusedSimpArgs false
set_option linter.unusedVariables false
set_option maxHeartbeats 4000000
set_option maxRecDepth 20000
open Go Go.Proofs

theorem bytes13_list (t : Txn) (ht : smTxn t) (hf : formed t = true) : ACalls Try.prog Nm.ref13_Bytes [txnA t] [] (bytes (txnB t)) [] := (bytes13_walk t ht hf).drop (dropL (by simp))
def t13 : Txn := ⟨1, 1, [], []⟩
theorem t13_sm : smTxn t13 := by simp [smTxn, okInt, t13]
theorem t13_f : formed t13 = true := by kernel_rfl
theorem t13_b : txnB t13 = [1, 1, 0, 0] := by kernel_rfl
theorem awake13 : ACalls Try.prog Nm.law13_awake [] [] (.bool true) [] := by
  refine ACalls_of tab (dr_snd tab mixed) Nm.law13_awake_h rfl (by kernel_rfl) (Nat.le_of_ble_eq_true rfl) rfl ?_
  have h1 := put_walk [] t13 (by simp) t13_sm t13_f
  rw [List.nil_append, t13_b] at h1
  have h2 := read_walk [1, 1, 0, 0, 9] (by simp)
  obtain ⟨e1, e2, e3⟩ := read_put t13_f (by simp [t13]) [9]
  rw [t13_b] at e1 e2 e3
  rw [show ([1, 1, 0, 0, 9] : List UInt8) = [1, 1, 0, 0] ++ [9] from rfl, e1, e2, e3] at h2
  have h3 := sameB_self [1, 1, 0, 0] (by simp)
  refine NCall.call (ACalls.args (h1) (by repeat (first | exact LeA.refl _ | exact LeA.nils _ | refine LeA.agg ?_ | refine LeA.list _ ?_ | exact LeAs.nil | refine LeAs.cons ?_ ?_))) rfl rfl ?_
  refine NMk.lst ?_
  refine NCall.call (h2) rfl rfl ?_
  refine ND.yes (by omega) ?_
  refine NMk.lst ?_
  refine NCall.call (h3) rfl rfl ?_
  refine ND.yes (by omega) ?_
  refine ND.yes (by rfl) ?_
  refine ND.yes (by rfl) ?_
  exact NRet.mk [] rfl ⟨.refl _, rfl⟩
theorem only_sm {t : Txn} (h : smTxn t) (z : List (List UInt8)) : smTxn (onlyT t z) := by
  obtain ⟨h1, h2, h3, h4⟩ := h
  have hs := effsOnly_sub t.effs z
  exact ⟨h1, h2, Nat.le_trans hs.length_le h3, fun e he => h4 e (hs.subset he)⟩
theorem txnB_len {t : Txn} (hf : formed t = true) : (txnB t).length ≤ 20000 := by
  obtain ⟨⟨f1, f2, f3, f4, f5, f6⟩, f7, f8⟩ := formed_facts hf
  have n1 := numsB_len (l := [t.node, t.seq, (t.deps.length : Int)]) (by simp; omega)
  have n2 := numsB_len (l := t.deps) (fun n hn => by have := f7 n hn; omega)
  have n3 := numB_len (n := (t.effs.length : Int)) (by omega)
  have n4 := effsB_len f8
  unfold txnB
  simp only [List.length_append, List.length_cons, List.length_nil] at *
  omega
theorem txnAll_walk (t : Txn) (z : List (List UInt8)) (b : List UInt8) (ht : okTxn t) (hz : z.length ≤ reachBytes) (hzx : ∀ e ∈ z, e.length ≤ reachBytes) (hb : b.length ≤ reachBytes) : ACalls Try.prog Nm.law13_TxnAll [txnA t, strsA z, bytes b] [] (.bool true) [] := by
  refine ACalls_of tab (dr_snd tab mixed) Nm.law13_TxnAll_h rfl (by kernel_rfl) (Nat.le_of_ble_eq_true rfl) rfl ?_
  have hb' := reach_lt hb
  have hz' := reach_lt hz
  have s1 := short13_walk [t] (by simp) (by simpa using ht)
  have s2 := short8_walk z (by omega) hzx
  cases h1 : shortT [t] with
  | false =>
    rw [h1] at s1
    refine NCall.call (awake13) rfl rfl ?_
    refine NCall.call (s1) rfl rfl ?_
    exact NRet.mk [] rfl ⟨.refl _, rfl⟩
  | true =>
    rw [h1] at s1
    have hst := short1_sm h1 ht
    cases h2 : (decide (z.length ≤ 60) && z.all fun e => decide (e.length ≤ 200)) with
    | false =>
      rw [h2] at s2
      refine NCall.call (awake13) rfl rfl ?_
      refine NCall.call (s1) rfl rfl ?_
      refine NCall.call (s2) rfl rfl ?_
      exact NRet.mk [] rfl ⟨.refl _, rfl⟩
    | true =>
      rw [h2] at s2
      rw [Bool.and_eq_true] at h2
      have h2 := of_decide_eq_true h2.1
      by_cases h3 : b.length ≤ 1000
      · have c1 := copy13_walk [t] (by simp) (by simpa using hst)
        have c3 := formed_walk t hst
        have c4 := formed13_walk t hst
        have c5 := txnOnly_walk t z hst (by omega)
        have c6 := only13_walk t z hst (by omega)
        have c7 := sameV_dec (only_sm hst z)
        have c8 := dot_walk t
        cases hf : formed t with
        | false =>
          rw [hf] at c3 c4
          have c2 := put_bad b t hst hf
          refine NCall.call (awake13) rfl rfl ?_
          refine NCall.call (s1) rfl rfl ?_
          refine NCall.call (s2) rfl rfl ?_
          refine ND.no (by (simp only [List.length_map, List.length_append, List.length_replicate, List.length_cons, List.length_nil, List.length_take, List.length_drop]; omega)) ?_
          refine NCall.call (c1) rfl rfl ?_
          refine NP.mk (by omega) ?_
          refine NG.mapN (by (simp only [List.length_map, List.length_append, List.length_replicate, List.length_cons, List.length_nil, List.length_take, List.length_drop]; omega)) ?_
          refine NCall.call (c2) rfl rfl ?_
          refine NP.mk (by kernel_rfl) ?_
          apply NDr.rd [1]
          · intro fH TH
            exact ⟨rfl, rfl⟩
          apply NDr.pure
          · refine NCall.call (c3) rfl rfl ?_
            exact ⟨rfl, rfl⟩
          apply NDr.rd [0]
          · intro fH TH
            exact ⟨rfl, rfl⟩
          apply NDr.pure
          · refine NCall.call (c4) rfl rfl ?_
            exact ⟨rfl, rfl⟩
          apply NDr.pure
          · refine ND.yes (by simp) ?_
            exact ⟨rfl, rfl⟩
          apply NDr.pure
          · exact ⟨rfl, rfl⟩
          apply NDr.rd [1]
          · intro fH TH
            exact ⟨rfl, rfl⟩
          apply NDr.pure
          · exact ⟨rfl, rfl⟩
          apply NDr.pure
          · refine NCall.call (c5) rfl rfl ?_
            exact ⟨rfl, rfl⟩
          apply NDr.rd [0]
          · intro fH TH
            exact ⟨rfl, rfl⟩
          apply NDr.pure
          · exact ⟨rfl, rfl⟩
          apply NDr.pure
          · refine NCall.call (c6) rfl rfl ?_
            exact ⟨rfl, rfl⟩
          apply NDr.pure
          · refine NCall.call (c7) rfl rfl ?_
            exact ⟨rfl, rfl⟩
          apply NDr.pure
          · exact ⟨rfl, rfl⟩
          apply NDr.pure
          · exact ⟨rfl, rfl⟩
          apply NDr.pure
          · exact ⟨rfl, rfl⟩
          apply NDr.rd [1]
          · intro fH TH
            exact ⟨rfl, rfl⟩
          apply NDr.pure
          · refine NCall.call (c8) rfl rfl ?_
            exact ⟨rfl, rfl⟩
          apply NDr.rd [0]
          · intro fH TH
            exact ⟨rfl, rfl⟩
          apply NDr.rd [0]
          · intro fH TH
            exact ⟨rfl, rfl⟩
          apply NDr.rd [0]
          · intro fH TH
            exact ⟨rfl, rfl⟩
          apply NDr.rd [0]
          · intro fH TH
            exact ⟨rfl, rfl⟩
          apply NDr.pure
          · exact ⟨rfl, rfl⟩
          apply NDr.pure
          · refine ND.yes (by simp) ?_
            exact ⟨rfl, rfl⟩
          apply NDr.pure
          · exact ⟨rfl, rfl⟩
          refine NP.mk (by kernel_rfl) ?_
          refine NCall.call (c4) rfl rfl ?_
          refine ND.yes (by omega) ?_
          refine ND.yes (by rfl) ?_
          exact NRet.mk [] rfl ⟨.refl _, rfl⟩
        | true =>
          rw [hf] at c3 c4
          have c2 := put_walk b t (by omega) hst hf
          have d1 := copyB_walk b (by omega)
          have d2 := bytes13_list t hst hf
          have hbl := txnB_len hf
          have d3 := sameB_self (b ++ txnB t) (by rw [List.length_append]; omega)
          have d4 := sameV_dec hst
          refine NCall.call (awake13) rfl rfl ?_
          refine NCall.call (s1) rfl rfl ?_
          refine NCall.call (s2) rfl rfl ?_
          refine ND.no (by (simp only [List.length_map, List.length_append, List.length_replicate, List.length_cons, List.length_nil, List.length_take, List.length_drop]; omega)) ?_
          refine NCall.call (c1) rfl rfl ?_
          refine NP.mk (by omega) ?_
          refine NG.mapN (by (simp only [List.length_map, List.length_append, List.length_replicate, List.length_cons, List.length_nil, List.length_take, List.length_drop]; omega)) ?_
          refine NCall.call (c2) rfl rfl ?_
          refine NP.mk (by kernel_rfl) ?_
          apply NDr.rd [1]
          · intro fH TH
            exact ⟨rfl, rfl⟩
          apply NDr.pure
          · refine NCall.call (c3) rfl rfl ?_
            exact ⟨rfl, rfl⟩
          apply NDr.rd [0]
          · intro fH TH
            exact ⟨rfl, rfl⟩
          apply NDr.pure
          · refine NCall.call (c4) rfl rfl ?_
            exact ⟨rfl, rfl⟩
          apply NDr.pure
          · refine ND.yes (by simp) ?_
            exact ⟨rfl, rfl⟩
          apply NDr.pure
          · exact ⟨rfl, rfl⟩
          apply NDr.rd [1]
          · intro fH TH
            exact ⟨rfl, rfl⟩
          apply NDr.pure
          · exact ⟨rfl, rfl⟩
          apply NDr.pure
          · refine NCall.call (c5) rfl rfl ?_
            exact ⟨rfl, rfl⟩
          apply NDr.rd [0]
          · intro fH TH
            exact ⟨rfl, rfl⟩
          apply NDr.pure
          · exact ⟨rfl, rfl⟩
          apply NDr.pure
          · refine NCall.call (c6) rfl rfl ?_
            exact ⟨rfl, rfl⟩
          apply NDr.pure
          · refine NCall.call (c7) rfl rfl ?_
            exact ⟨rfl, rfl⟩
          apply NDr.pure
          · exact ⟨rfl, rfl⟩
          apply NDr.pure
          · exact ⟨rfl, rfl⟩
          apply NDr.pure
          · exact ⟨rfl, rfl⟩
          apply NDr.rd [1]
          · intro fH TH
            exact ⟨rfl, rfl⟩
          apply NDr.pure
          · refine NCall.call (c8) rfl rfl ?_
            exact ⟨rfl, rfl⟩
          apply NDr.rd [0]
          · intro fH TH
            exact ⟨rfl, rfl⟩
          apply NDr.rd [0]
          · intro fH TH
            exact ⟨rfl, rfl⟩
          apply NDr.rd [0]
          · intro fH TH
            exact ⟨rfl, rfl⟩
          apply NDr.rd [0]
          · intro fH TH
            exact ⟨rfl, rfl⟩
          apply NDr.pure
          · exact ⟨rfl, rfl⟩
          apply NDr.pure
          · refine ND.yes (by simp) ?_
            exact ⟨rfl, rfl⟩
          apply NDr.pure
          · exact ⟨rfl, rfl⟩
          refine NP.mk (by kernel_rfl) ?_
          refine NCall.call (c4) rfl rfl ?_
          refine NP.mk (by kernel_rfl) ?_
          apply NDr.pure
          · exact ⟨rfl, rfl⟩
          apply NDr.pure
          · refine ND.yes (by omega) ?_
            exact ⟨rfl, rfl⟩
          apply NDr.pure
          · exact ⟨rfl, rfl⟩
          apply NDr.pure
          · exact ⟨rfl, rfl⟩
          apply NDr.pure
          · exact ⟨rfl, rfl⟩
          apply NDr.efw []
          · refine NCall.atA (ACalls.frame (d1) rfl _) ?_
            exact ⟨rfl, rfl⟩
          · repeat (first | exact True.intro | refine ⟨by first | exact rfl | exact True.intro, ?_⟩)
          apply NDr.rd [0]
          · intro fH TH
            exact ⟨rfl, rfl⟩
          apply NDr.pure
          · refine NCall.call (d2) rfl rfl ?_
            exact ⟨rfl, rfl⟩
          apply NDr.efw [2]
          · refine NFz.own ?_
            refine NApp.endA (by simp) (by simp; omega) ?_
            exact ⟨rfl, rfl⟩
          · repeat (first | exact True.intro | refine ⟨by first | exact rfl | exact True.intro, ?_⟩)
          apply NDr.efw [3]
          · rw [(mapApp _ _ _)]
            refine NCall.eq (by simp only [List.length_map] <;> exact rfl) ?_
            refine NCall.lend (d3) (.cons (.same _) (.cons (.own trivial rfl (by simp) (by simp) (by simp [List.take_of_length_le])) .nil)) rfl rfl ?_
            exact ⟨rfl, rfl⟩
          · repeat (first | exact True.intro | refine ⟨by first | exact rfl | exact True.intro, ?_⟩)
          apply NDr.pure
          · exact ⟨rfl, rfl⟩
          apply NDr.pure
          · exact ⟨rfl, rfl⟩
          apply NDr.rd [1]
          · intro fH TH
            exact ⟨rfl, rfl⟩
          apply NDr.rd [0]
          · intro fH TH
            exact ⟨rfl, rfl⟩
          apply NDr.pure
          · refine NCall.call (d4) rfl rfl ?_
            exact ⟨rfl, rfl⟩
          apply NDr.pure
          · exact ⟨rfl, rfl⟩
          apply NDr.pure
          · exact ⟨rfl, rfl⟩
          refine NP.mk (by kernel_rfl) ?_
          rw [(mapApp _ _ _)]
          exact NRet.mk [] rfl ⟨.refl _, rfl⟩
      · refine NCall.call (awake13) rfl rfl ?_
        refine NCall.call (s1) rfl rfl ?_
        refine NCall.call (s2) rfl rfl ?_
        refine ND.yes (by (simp only [List.length_map, List.length_append, List.length_replicate, List.length_cons, List.length_nil, List.length_take, List.length_drop]; omega)) ?_
        exact NRet.mk [] rfl ⟨.refl _, rfl⟩
end Go.Bv
