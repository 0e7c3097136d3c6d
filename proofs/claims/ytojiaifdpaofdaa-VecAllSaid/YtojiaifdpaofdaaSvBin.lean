/- Part of the lift: an abstract walk of the program's code, proved sound, and what it shows of this program. -/
import Derived.Test.YtojiaifdpaofdaaSvCom
namespace Go.Bv
open Go Go.Proofs

/-- bin.PutNum, a number that has a form. -/
theorem putNum_walk (b : List UInt8) (n : Nat) (hb : b.length ≤ 2 ^ 45) (hn : n ≤ 72057594037927935) : ACalls Try.prog Nm.bin_PutNum [bytes b, i64 n] [] (.tup [.own 0 0 (b ++ numBytes n).length, i64 0]) [.row .vrow .leaf ((b ++ numBytes n).map u8)] := by
  refine ACalls_of tab noDr_snd Nm.bin_PutNum_h rfl (by kernel_rfl) (Nat.le_of_ble_eq_true rfl) rfl ?_
  refine NB.dec (fun h => ?_) (fun h => ?_)
  · omega
  refine NCall.at (cloneB_walk b (by omega)) ?_
  refine NLoop.mk [] [1, 6] (fun m vs H => ∃ (k : Nat) (p : List UInt8), m = k ∧ p ++ numBytes k = numBytes n ∧ H = [.row .vrow .leaf ((b ++ p).map u8)] ∧ vs = [i64 k, .own 0 0 (b ++ p).length]) rfl ?_ ?_
  · exact Canon.mk [0] rfl ⟨n, n, [], rfl, rfl, by rw [List.append_nil], by rw [List.append_nil]; rfl⟩
  · rintro m vs H ⟨k, p, rfl, hp, rfl, rfl⟩
    have hlen : p.length + (numBytes m).length ≤ 8 := by
      have := congrArg List.length hp
      rw [List.length_append] at this
      rw [this]; exact numBytes_len8 hn
    refine NB.dec (fun h => ?_) (fun h => ?_)
    · have h : ¬ m < 128 := by omega
      refine NW.mk _ rfl (NMk.own (NFz.own (NP.mk (by simp) (NApp.endd rfl (by simp) (by simp; omega) ?_))))
      refine NP.mk (by decide) (Canon.mk [2] rfl ⟨m / 128, by omega, m / 128, p ++ [UInt8.ofNat (m % 128 + 128)], rfl, ?_, ?_, ?_⟩)
      · rw [List.append_assoc, ← hp, numBytes_ge h]; rfl
      · rw [byte_or, ← List.append_assoc, List.map_append (l₁ := b ++ p)]; rfl
      · rw [shr7]
        show [_, AV.own 0 0 ((List.map u8 (b ++ p) ++ [_]).length)] = _
        simp [i64]
    · have h : m < 128 := by omega
      refine NW.mk _ rfl (NMk.own (NFz.own (NP.mk (by simp) (NApp.endd rfl (by simp) (by simp; omega) ?_))))
      refine NRet.mk [2] rfl ⟨?_, ?_⟩
      · have : (b ++ numBytes n).length = (List.map u8 (b ++ p) ++ [AV.int .u8 (IntKind.wrap .u8 (m : Int))]).length := by
          rw [← hp, numBytes_lt h]; simp
        rw [this]; exact .refl _
      · rw [← hp, numBytes_lt h, wrap_byte, ← List.append_assoc, List.map_append (l₁ := b ++ p)]; rfl

theorem putNum_bad (b : List UInt8) (n : Int) (hn : n < 0 ∨ 72057594037927935 < n) : ACalls Try.prog Nm.bin_PutNum [bytes b, i64 n] [] (.tup [bytes [], i64 1]) [] := by
  refine ACalls_of tab noDr_snd Nm.bin_PutNum_h rfl (by kernel_rfl) (Nat.le_of_ble_eq_true rfl) rfl ?_
  have fin : LeA (.tup [.nils, i64 1]) (.tup [bytes [], i64 1]) := .tup (.cons (.nils .leaf) (.cons (.refl _) .nil))
  refine NB.dec (fun h => ?_) (fun h => ?_)
  · exact NRet.mk [] rfl ⟨fin, rfl⟩
  · refine NB.dec (fun h2 => ?_) (fun h2 => ?_)
    · exact NRet.mk [] rfl ⟨fin, rfl⟩
    · omega

theorem putNum_nil (b : List UInt8) (n : Int) (hn : n < 0 ∨ 72057594037927935 < n) : ACalls Try.prog Nm.bin_PutNum [bytes b, i64 n] [] (.tup [.nils, i64 1]) [] := by
  refine ACalls_of tab noDr_snd Nm.bin_PutNum_h rfl (by kernel_rfl) (Nat.le_of_ble_eq_true rfl) rfl ?_
  refine NB.dec (fun h => ?_) (fun h => ?_)
  · exact NRet.mk [] rfl ⟨.refl _, rfl⟩
  · refine NB.dec (fun h2 => ?_) (fun h2 => ?_)
    · exact NRet.mk [] rfl ⟨.refl _, rfl⟩
    · omega

theorem putNum_list (b : List UInt8) (n : Nat) (hb : b.length ≤ 2 ^ 45) (hn : n ≤ 72057594037927935) : ACalls Try.prog Nm.bin_PutNum [bytes b, i64 n] [] (.tup [bytes (b ++ numBytes n), i64 0]) [] :=
  (putNum_walk b n hb hn).drop (.tup (.cons (drop_bytes rfl) (.cons (.same _) .nil)) rfl)

set_option maxRecDepth 100000 in
/-- bin.Num. -/
theorem num_walk (l : List UInt8) (hl : l.length ≤ 2 ^ 46) : ACalls Try.prog Nm.bin_Num [bytes l] [] (numRes (rdNum 0 0 l)) [] := by
  refine ACalls_of tab noDr_snd Nm.bin_Num_h rfl (by kernel_rfl) (Nat.le_of_ble_eq_true rfl) rfl ?_
  refine NLoop.mk [] [0, 5, 8, 9, 10] (fun m vs H => ∃ i n, i ≤ l.length ∧ m = l.length - i ∧ i ≤ 7 ∧ n < 128 ^ i ∧ rdNum 0 0 l = rdNum i n (l.drop i) ∧ H = [] ∧ vs = [bytes l, i64 (n : Nat), bytes l, i64 l.length, i64 i]) rfl ?_ ?_
  · refine Canon.mk [] rfl ⟨l.length, 0, 0, Nat.zero_le _, rfl, by omega, by decide, rfl, rfl, ?_⟩
    simp [bytes, i64]
  · rintro m vs H ⟨i, n, hi, rfl, hi7, hn, hr, rfl, rfl⟩
    refine NB.dec (fun h => ?_) (fun h => ?_)
    · have hil : i < l.length := by omega
      rw [List.drop_eq_getElem_cons hil] at hr
      have hx := l[i].toNat_lt
      have hn56 : n < 2 ^ 49 := by
        have : (128 : Nat) ^ i ≤ 128 ^ 7 := Nat.pow_le_pow_right (by decide) hi7
        omega
      have e1 : ((7 * i : Nat) : Int) = IntKind.wrap .u64 (7 * (i : Int)) := by rw [wrap_u64]; omega
      refine NP.mk (Int.natCast_nonneg _) (NG.mapE (j := i) rfl hil ?_)
      refine NW.mk ((l[i].toNat % 128 : Nat) : Int) (by rw [and127, wrap_i64 _ (by omega) (by omega)]) (NW.i64 (by omega) (by omega) (NW.mk _ e1 (NP.mk (by omega) ?_)))
      rw [shl7 _ _ (Nat.mod_lt _ (by decide)) hi7]
      have hb : l[i].toNat % 128 * 128 ^ i < 2 ^ 56 := by
        have h1 : (128 : Nat) ^ i ≤ 128 ^ 7 := Nat.pow_le_pow_right (by decide) hi7
        have h2 : l[i].toNat % 128 ≤ 127 := by omega
        calc l[i].toNat % 128 * 128 ^ i ≤ 127 * 128 ^ 7 := Nat.mul_le_mul h2 h1
          _ < 2 ^ 56 := by decide
      have hor : bitop .or .i64 (n : Int) ((l[i].toNat % 128 * 128 ^ i : Nat) : Int) = ((n + l[i].toNat % 128 * 128 ^ i : Nat) : Int) := by
        rw [or_i64 _ _ (by omega) (by omega), or_add hn]
      have bad : rdNum 0 0 l = .error 2 → LeA (.tup [i64 0, .nils, i64 2]) (numRes (rdNum 0 0 l)) := fun h => by
        rw [h]; exact .tup (.cons (.refl _) (.cons (.nils .leaf) (.cons (.refl _) .nil)))
      have step : ¬ ((128 ≤ l[i].toNat ∧ i = 7) ∨ (l[i].toNat = 0 ∧ 0 < i)) → rdNum 0 0 l = if l[i].toNat < 128 then .ok (n + l[i].toNat % 128 * 128 ^ i, l.drop (i + 1)) else rdNum (i + 1) (n + l[i].toNat % 128 * 128 ^ i) (l.drop (i + 1)) := fun h => by
        rw [hr, rdNum, if_neg h]
      have ok : l[i].toNat < 128 → (rdNum 0 0 l = .ok (n + l[i].toNat % 128 * 128 ^ i, l.drop (i + 1))) → (AV.tup [.int .i64 (bitop .or .i64 (n : Int) ((l[i].toNat % 128 * 128 ^ i : Nat) : Int)), bytes (l.drop (i + 1)), i64 0]) = numRes (rdNum 0 0 l) := fun h hh => by
        rw [hh, hor]; rfl
      refine NB.dec (fun h1 => ?_) (fun h1 => ?_)
      · refine NB.dec (fun h2 => ?_) (fun h2 => ?_)
        · refine NRet.mk [] rfl ⟨bad ?_, rfl⟩
          rw [hr, rdNum, if_pos (.inl ⟨by omega, by omega⟩)]
        · refine NB.dec (fun h3 => ?_) (fun _ => ?_)
          · omega
          refine NB.dec (fun h3 => ?_) (fun _ => ?_)
          · omega
          refine NW.i64 (by omega) (by omega) (Canon.mk [] rfl ⟨l.length - (i + 1), by omega, i + 1, n + l[i].toNat % 128 * 128 ^ i, by omega, rfl, by omega, ?_, ?_, rfl, ?_⟩)
          · rw [Nat.pow_succ]
            have : l[i].toNat % 128 ≤ 127 := by omega
            have := Nat.mul_le_mul_right (128 ^ i) this
            omega
          · rw [step (by omega), if_neg (by omega)]
          · rw [hor]; rfl
      · have h1 : l[i].toNat < 128 := by omega
        refine NB.dec (fun h2 => ?_) (fun h2 => ?_)
        · refine NB.dec (fun h3 => ?_) (fun h3 => ?_)
          · refine NRet.mk [] rfl ⟨bad ?_, rfl⟩
            rw [hr, rdNum, if_pos (.inr ⟨by omega, by omega⟩)]
          · refine NB.dec (fun _ => ?_) (fun h4 => ?_)
            · refine NW.i64 (by omega) (by omega) (NP.mk ⟨by omega, by simp; omega⟩ ?_)
              refine NCall.eq (congrArg (fun x => [AV.list .leaf x]) (List.map_drop).symm) (NCall.call (cloneB_list (l.drop (i + 1)) (by simp; omega)) rfl rfl ?_)
              refine NRet.mk [] rfl ⟨?_, rfl⟩
              have := ok h1 (by rw [step (by omega), if_pos h1])
              rw [← this]
              exact .refl _
            · omega
        · refine NB.dec (fun _ => ?_) (fun h4 => ?_)
          · refine NW.i64 (by omega) (by omega) (NP.mk ⟨by omega, by simp; omega⟩ ?_)
            refine NCall.eq (congrArg (fun x => [AV.list .leaf x]) (List.map_drop).symm) (NCall.call (cloneB_list (l.drop (i + 1)) (by simp; omega)) rfl rfl ?_)
            refine NRet.mk [] rfl ⟨?_, rfl⟩
            have := ok h1 (by rw [step (by omega), if_pos h1])
            rw [← this]
            exact .refl _
          · omega
    · have hil : i = l.length := by omega
      have : rdNum 0 0 l = .error 3 := by rw [hr, List.drop_eq_nil_of_le (by omega)]; rfl
      refine NRet.mk [] rfl ⟨?_, rfl⟩
      rw [this]; exact .tup (.cons (.refl _) (.cons (.nils .leaf) (.cons (.refl _) .nil)))

/-- bin.Text. -/
theorem text_walk (l : List UInt8) (hl : l.length ≤ 2 ^ 46) : ACalls Try.prog Nm.bin_Text [bytes l] [] (textRes (rdText l)) [] := by
  refine ACalls_of tab (dr_snd tab mixed) Nm.bin_Text_h rfl (by kernel_rfl) (Nat.le_of_ble_eq_true rfl) rfl ?_
  have hnum := num_walk l hl
  have hlen := @rdNum_len 0 0 l
  have herr := @rdNum_err 0 0 l
  unfold rdText
  rcases hr : rdNum 0 0 l with e | ⟨n, r⟩
  · rw [hr] at hnum
    have he := herr e hr
    refine NCall.call hnum rfl rfl ?_
    refine NB.dec (fun h => ?_) (fun h => ?_)
    · omega
    · exact NRet.mk [] rfl ⟨.tup (.cons (.refl _) (.cons (.nils .leaf) (.cons (.refl _) .nil))), rfl⟩
  · rw [hr] at hnum
    have hlen := hlen n r hr
    refine NCall.call hnum rfl rfl ?_
    dsimp only
    refine NB.dec (fun h => ?_) (fun h => ?_)
    · rw [if_pos (by omega)]
      exact NRet.mk [] rfl ⟨.tup (.cons (.refl _) (.cons (.nils .leaf) (.cons (.refl _) .nil))), rfl⟩
    · rw [if_neg (by omega)]
      refine NB.dec (fun h => ?_) (fun h => ?_)
      · rw [if_pos (by simp only [List.length_map] at h; omega)]
        exact NRet.mk [] rfl ⟨.tup (.cons (.refl _) (.cons (.nils .leaf) (.cons (.refl _) .nil))), rfl⟩
      · simp only [List.length_map] at h
        rw [if_neg (by omega)]
        refine NP.mk (by kernel_rfl) ?_
        refine NDr.pure _ ⟨rfl, rfl⟩ ?_
        refine NDr.pure _ ⟨rfl, rfl⟩ ?_
        refine NDr.pure (bytes (r.take n)) (NP.mk ⟨Int.natCast_nonneg _, by simp; omega⟩ ⟨by rw [bytes, List.map_take]; rfl, rfl⟩) ?_
        refine NDr.pure (.str (r.take n)) (NP.mk bytes_isByte ⟨by rw [bytes_byteOf], rfl⟩) ?_
        refine NDr.pure _ ⟨rfl, rfl⟩ ?_
        refine NDr.pure _ ⟨rfl, rfl⟩ ?_
        refine NDr.pure (bytes (r.drop n)) (NP.mk ⟨Int.natCast_nonneg _, by simp; omega⟩ ⟨by rw [bytes, List.map_drop]; rfl, rfl⟩) ?_
        refine NDr.pure _ ⟨rfl, rfl⟩ ?_
        refine NDr.pure _ ⟨rfl, rfl⟩ ?_
        refine NDr.pure _ ⟨rfl, rfl⟩ ?_
        refine NP.mk (by kernel_rfl) ?_
        exact NRet.mk [] rfl ⟨.refl _, rfl⟩

/-- bin.PutInt. -/
theorem putInt_walk (b : List UInt8) (n : Int) (hb : b.length ≤ 2 ^ 45) : ACalls Try.prog Nm.bin_PutInt [bytes b, i64 n] [] (.own 0 0 (b ++ intBytes (u64of n) 8).length) [.row .vrow .leaf ((b ++ intBytes (u64of n) 8).map u8)] := by
  refine ACalls_of tab noDr_snd Nm.bin_PutInt_h rfl (by kernel_rfl) (Nat.le_of_ble_eq_true rfl) rfl ?_
  refine NCall.at (cloneB_walk b (by omega)) ?_
  refine NLoop.mk [] [1, 5, 9] (fun m vs H => ∃ i, i ≤ 8 ∧ m = 8 - i ∧ H = [.row .vrow .leaf ((b ++ intBytes (u64of n) i).map u8)] ∧ vs = [i64 n, .own 0 0 (b ++ intBytes (u64of n) i).length, i64 i]) rfl ?_ ?_
  · exact Canon.mk [0] rfl ⟨8, 0, Nat.zero_le _, rfl, by rw [show intBytes (u64of n) 0 = [] from rfl, List.append_nil], by rw [show intBytes (u64of n) 0 = [] from rfl, List.append_nil]; rfl⟩
  · rintro m vs H ⟨i, hi, rfl, rfl, rfl⟩
    refine NB.dec (fun h => ?_) (fun h => ?_)
    · have hi8 : i < 8 := by omega
      have e1 : ((8 * i : Nat) : Int) = IntKind.wrap .u64 (8 * (i : Int)) := by rw [wrap_u64]; omega
      refine NW.mk (u64of n : Int) (u64of_eq n).symm (NW.i64 (by omega) (by omega) (NW.mk _ e1 (NP.mk (by omega) (NW.mk _ (shr8 _ _ hi8).symm ?_))))
      refine NMk.own (NFz.own (NP.mk (by simp) (NApp.endd rfl (by simp) (by simp [intBytes]; omega) ?_)))
      refine NW.i64 (by omega) (by omega) (Canon.mk [2] rfl ⟨8 - (i + 1), by omega, i + 1, by omega, rfl, ?_, ?_⟩)
      · rw [intBytes_succ, ← List.append_assoc, List.map_append (l₁ := b ++ intBytes (u64of n) i)]; rfl
      · show [_, AV.own 0 0 ((List.map u8 (b ++ intBytes (u64of n) i) ++ [_]).length), _] = _
        simp [i64, intBytes]
    · have : i = 8 := by omega
      subst this
      exact NRet.mk [0] rfl ⟨.refl _, rfl⟩

/-- bin.PutText. -/
theorem putText_walk (b s : List UInt8) (hb : b.length ≤ 2 ^ 44) (hs : s.length ≤ 65536) : ACalls Try.prog Nm.bin_PutText [bytes b, .str s] [] (.tup [.own 0 0 (b ++ numBytes s.length ++ s).length, i64 0]) [.row .vrow .leaf ((b ++ numBytes s.length ++ s).map u8)] := by
  refine ACalls_of tab noDr_snd Nm.bin_PutText_h rfl (by kernel_rfl) (Nat.le_of_ble_eq_true rfl) rfl ?_
  have h8 := numBytes_len8 (n := s.length) (by omega)
  have hp := putNum_walk b s.length (by omega) (by omega)
  generalize numBytes s.length = q at *
  refine NB.dec (fun h => ?_) (fun h => ?_)
  · omega
  · refine NCall.at hp ?_
    refine NFz.own (NApp.endd rfl (by simp) (by simp; omega) ?_)
    refine NRet.mk [1] rfl ⟨?_, ?_⟩
    · have : (b ++ q ++ s).length = (List.map u8 (b ++ q) ++ List.map (fun c => AV.int .u8 (c.toNat : Int)) s).length := by simp
      rw [this]; exact .refl _
    · rw [List.map_append (l₁ := b ++ q)]; rfl

theorem putText_bad (b s : List UInt8) (hs : 65536 < s.length) : ACalls Try.prog Nm.bin_PutText [bytes b, .str s] [] (.tup [bytes [], i64 4]) [] := by
  refine ACalls_of tab noDr_snd Nm.bin_PutText_h rfl (by kernel_rfl) (Nat.le_of_ble_eq_true rfl) rfl ?_
  refine NB.dec (fun h => ?_) (fun h => ?_)
  · exact NRet.mk [] rfl ⟨.tup (.cons (.nils .leaf) (.cons (.refl _) .nil)), rfl⟩
  · omega

theorem putText_nil (b s : List UInt8) (hs : 65536 < s.length) : ACalls Try.prog Nm.bin_PutText [bytes b, .str s] [] (.tup [.nils, i64 4]) [] := by
  refine ACalls_of tab noDr_snd Nm.bin_PutText_h rfl (by kernel_rfl) (Nat.le_of_ble_eq_true rfl) rfl ?_
  refine NB.dec (fun h => ?_) (fun h => ?_)
  · exact NRet.mk [] rfl ⟨.refl _, rfl⟩
  · omega

/-- butteryref03.Num. -/
theorem refNum_walk (n : Nat) (hn : n ≤ 72057594037927935) : ACalls Try.prog Nm.ref03_Num [i64 n] [] (.tup [.own 0 0 (numBytes n).length, i64 0]) [.row .vrow .leaf ((numBytes n).map u8)] := by
  refine ACalls_of tab noDr_snd Nm.ref03_Num_h rfl (by kernel_rfl) (Nat.le_of_ble_eq_true rfl) rfl ?_
  have h8 := numBytes_len8 hn
  refine NB.dec (fun h => ?_) (fun h => ?_)
  · omega
  refine NLoop.mk [(4, .leaf)] [0, 4] (fun m vs H => ∃ (k : Nat) (p : List UInt8), m = k ∧ k ≤ 72057594037927935 ∧ p ++ numBytes k = numBytes n ∧ H = [.row .vrow .leaf (p.map u8)] ∧ vs = [i64 k, .own 0 0 p.length]) rfl ?_ ?_
  · exact Canon.mk [0] rfl ⟨n, n, [], rfl, hn, rfl, rfl, rfl⟩
  · rintro m vs H ⟨k, p, rfl, hk, hp, rfl, rfl⟩
    have hlen : p.length + (numBytes m).length ≤ 8 := by
      have := congrArg List.length hp
      rw [List.length_append] at this
      omega
    refine NP.mk (by decide) (NP.mk (by decide) (NW.mk ((m / 128 : Nat) : Int) (tdiv128 m (by omega)) ?_))
    rw [tmod128]
    refine NB.dec (fun h => ?_) (fun h => ?_)
    · have hm : m < 128 := by omega
      refine NW.mk _ (wrap_byte _).symm (NMk.own (NFz.own (NP.mk (by simp) (NApp.endd rfl (by simp) (by simp; omega) ?_))))
      refine NRet.mk [2] rfl ⟨?_, ?_⟩
      · have : (numBytes n).length = (List.map u8 p ++ [u8 (UInt8.ofNat (m % 128))]).length := by
          rw [← hp, numBytes_lt hm]; simp
        rw [this]; exact .refl _
      · rw [← hp, numBytes_lt hm, Nat.mod_eq_of_lt hm, List.map_append]; rfl
    · have hm : ¬ m < 128 := by omega
      refine NW.i64 (by omega) (by omega) (NW.mk ((UInt8.ofNat (m % 128 + 128)).toNat : Int) (by rw [← wrap_byte]; rfl) (NMk.own (NFz.own (NP.mk (by simp) (NApp.endd rfl (by simp) (by simp; omega) ?_)))))
      refine Canon.mk [2] rfl ⟨m / 128, by omega, m / 128, p ++ [UInt8.ofNat (m % 128 + 128)], rfl, by omega, ?_, ?_, ?_⟩
      · rw [List.append_assoc, ← hp, numBytes_ge hm]; rfl
      · rw [List.map_append]; rfl
      · show [_, AV.own 0 0 ((List.map u8 p ++ [_]).length)] = _
        simp [i64]

theorem refNum_bad (n : Int) (hn : n < 0 ∨ 72057594037927935 < n) : ACalls Try.prog Nm.ref03_Num [i64 n] [] (.tup [bytes [], i64 1]) [] := by
  refine ACalls_of tab noDr_snd Nm.ref03_Num_h rfl (by kernel_rfl) (Nat.le_of_ble_eq_true rfl) rfl ?_
  have fin : LeA (.tup [.nils, i64 1]) (.tup [bytes [], i64 1]) := .tup (.cons (.nils .leaf) (.cons (.refl _) .nil))
  refine NB.dec (fun h => ?_) (fun h => ?_)
  · exact NRet.mk [] rfl ⟨fin, rfl⟩
  · refine NB.dec (fun h2 => ?_) (fun h2 => ?_)
    · exact NRet.mk [] rfl ⟨fin, rfl⟩
    · omega

theorem refNum_list (n : Nat) (hn : n ≤ 72057594037927935) : ACalls Try.prog Nm.ref03_Num [i64 n] [] (.tup [bytes (numBytes n), i64 0]) [] :=
  (refNum_walk n hn).drop (.tup (.cons (drop_bytes rfl) (.cons (.same _) .nil)) rfl)

/-- butteryref03.PutNum. -/
theorem refPutNum_walk (b : List UInt8) (n : Nat) (hb : b.length ≤ 2 ^ 45) (hn : n ≤ 72057594037927935) : ACalls Try.prog Nm.ref03_PutNum [bytes b, i64 n] [] (.tup [bytes (b ++ numBytes n), i64 0]) [] := by
  refine ACalls_of tab noDr_snd Nm.ref03_PutNum_h rfl (by kernel_rfl) (Nat.le_of_ble_eq_true rfl) rfl ?_
  have h8 := numBytes_len8 hn
  have hq := refNum_list n hn
  generalize numBytes n = q at *
  refine NCall.call hq rfl rfl ?_
  refine NFz.own (NApp.endd rfl rfl (by simp; omega) ?_)
  refine NFz.own (NApp.endd rfl (by simp) (by simp; omega) ?_)
  refine NRet.mk [] rfl (NFrz.mk ((b ++ q).map u8) (by simp) (by rw [List.drop_zero, List.take_of_length_le (Nat.le_refl _), List.map_append]; rfl) ⟨.refl _, rfl⟩)

theorem refPutNum_bad (b : List UInt8) (n : Int) (hn : n < 0 ∨ 72057594037927935 < n) : ACalls Try.prog Nm.ref03_PutNum [bytes b, i64 n] [] (.tup [bytes [], i64 1]) [] := by
  refine ACalls_of tab noDr_snd Nm.ref03_PutNum_h rfl (by kernel_rfl) (Nat.le_of_ble_eq_true rfl) rfl ?_
  refine NCall.call (refNum_bad n hn) rfl rfl ?_
  exact NRet.mk [] rfl ⟨.tup (.cons (.nils .leaf) (.cons (.refl _) .nil)), rfl⟩

/-- butteryref03.Int. -/
theorem refInt_walk (n : Int) : ACalls Try.prog Nm.ref03_Int [i64 n] [] (bytes (intBytes (u64of n) 8)) [] := by
  refine ACalls_of tab noDr_snd Nm.ref03_Int_h rfl (by kernel_rfl) (Nat.le_of_ble_eq_true rfl) rfl ?_
  refine NLoop.mk [(3, .leaf)] [0, 3, 4] (fun m vs H => ∃ (i : Nat) (z : Int), i ≤ 8 ∧ m = 8 - i ∧ u64of z = u64of n / 256 ^ i ∧ H = [.row .vrow .leaf ((intBytes (u64of n) i).map u8)] ∧ vs = [i64 z, .own 0 0 i, i64 i]) rfl ?_ ?_
  · exact Canon.mk [0] rfl ⟨8, 0, n, Nat.zero_le _, rfl, by simp, rfl, rfl⟩
  · rintro m vs H ⟨i, z, hi, rfl, hz, rfl, rfl⟩
    have hv := u64of_lt n
    generalize u64of n = v at *
    refine NB.dec (fun h => ?_) (fun h => ?_)
    · have hi8 : i < 8 := by omega
      have e1 : ((intByte v i).toNat : Int) = IntKind.wrap .u8 ((u64of z : Int).tmod 256) := by
        have : (u64of z : Int).tmod ((256 : Nat) : Int) = ((u64of z % 256 : Nat) : Int) := by simp [Int.tmod]
        rw [show (256 : Int) = ((256 : Nat) : Int) from rfl, this, wrap_byte, hz]
        unfold intByte
        rw [UInt8.toNat_ofNat', UInt8.toNat_ofNat']
        omega
      have hlt : u64of z < 2 ^ 64 := u64of_lt z
      have e2 : ((u64of z / 256 : Nat) : Int) = IntKind.wrap .u64 ((u64of z : Int).tdiv 256) := by
        have : (u64of z : Int).tdiv ((256 : Nat) : Int) = ((u64of z / 256 : Nat) : Int) := by simp [Int.tdiv]
        rw [show (256 : Int) = ((256 : Nat) : Int) from rfl, this, wrap_u64]
        omega
      refine NW.mk (u64of z : Int) (u64of_eq z).symm (NP.mk (by decide) (NW.mk _ e1 ?_))
      refine NMk.own (NFz.own (NP.mk (by simp) (NApp.endd rfl (by simp [intBytes]) (by simp [intBytes]; omega) ?_)))
      refine NW.mk (u64of z : Int) (u64of_eq z).symm (NP.mk (by decide) (NW.mk _ e2 (NW.mk ((u64of z / 256 : Nat) : Int) (wrap_i64 _ (by omega) (by omega)).symm ?_)))
      refine NW.i64 (by omega) (by omega) (Canon.mk [2] rfl ⟨8 - (i + 1), by omega, i + 1, ((u64of z / 256 : Nat) : Int), by omega, rfl, ?_, ?_, ?_⟩)
      · rw [show u64of ((u64of z / 256 : Nat) : Int) = u64of z / 256 by unfold u64of; omega, hz, Nat.div_div_eq_div_mul, Nat.pow_succ]
      · rw [intBytes_succ, List.map_append]; rfl
      · show [_, AV.own 0 0 ((List.map u8 (intBytes v i) ++ [_]).length), _] = _
        simp [i64, intBytes]
    · have : i = 8 := by omega
      subst this
      exact NRet.mk [] rfl (NFrz.mk ((intBytes v 8).map u8) (by simp [intBytes]) (by rw [List.drop_zero, List.take_of_length_le (by simp [intBytes])]) ⟨.refl _, rfl⟩)

/-- butteryref03.Text. -/
theorem refText_walk (s : List UInt8) (hs : s.length ≤ 65536) : ACalls Try.prog Nm.ref03_Text [.str s] [] (.tup [bytes (numBytes s.length ++ s), i64 0]) [] := by
  refine ACalls_of tab noDr_snd Nm.ref03_Text_h rfl (by kernel_rfl) (Nat.le_of_ble_eq_true rfl) rfl ?_
  have h8 := numBytes_len8 (n := s.length) (by omega)
  have hp := refNum_walk s.length (by omega)
  generalize numBytes s.length = q at *
  refine NB.dec (fun h => ?_) (fun h => ?_)
  · omega
  · refine NCall.at hp ?_
    refine NFz.own (NApp.endd rfl (by simp) (by simp; omega) ?_)
    refine NRet.mk [] rfl (NFrz.mk ((q ++ s).map u8) (by simp) (by rw [List.drop_zero, List.take_of_length_le (Nat.le_refl _), List.map_append]; rfl) ⟨.refl _, rfl⟩)

theorem refText_bad (s : List UInt8) (hs : 65536 < s.length) : ACalls Try.prog Nm.ref03_Text [.str s] [] (.tup [bytes [], i64 4]) [] := by
  refine ACalls_of tab noDr_snd Nm.ref03_Text_h rfl (by kernel_rfl) (Nat.le_of_ble_eq_true rfl) rfl ?_
  refine NB.dec (fun h => ?_) (fun h => ?_)
  · exact NRet.mk [] rfl ⟨.tup (.cons (.nils .leaf) (.cons (.refl _) .nil)), rfl⟩
  · omega

/-- bin.Int. -/
theorem int_walk (l : List UInt8) (hl : l.length ≤ 2 ^ 46) (h8 : 8 ≤ l.length) : ACalls Try.prog Nm.bin_Int [bytes l] [] (.tup [i64 (intOf l), bytes (l.drop 8), i64 0]) [] := by
  refine ACalls_of tab noDr_snd Nm.bin_Int_h rfl (by kernel_rfl) (Nat.le_of_ble_eq_true rfl) rfl ?_
  refine NB.dec (fun h => ?_) (fun h => ?_)
  · simp only [List.length_map] at h; omega
  · refine NLoop.mk [] [0, 5, 10] (fun m vs H => ∃ i, i ≤ 8 ∧ m = 8 - i ∧ H = [] ∧ vs = [bytes l, .int .u64 (rdInt l i : Nat), i64 i]) rfl ?_ ?_
    · exact Canon.mk [] rfl ⟨8, 0, Nat.zero_le _, rfl, rfl, rfl⟩
    · rintro m vs H ⟨i, hi, rfl, rfl, rfl⟩
      refine NB.dec (fun h => ?_) (fun h => ?_)
      · have hi8 : i < 8 := by omega
        have hil : i < l.length := by omega
        have hx := l[i].toNat_lt
        have e1 : ((8 * i : Nat) : Int) = IntKind.wrap .u64 (8 * (i : Int)) := by rw [wrap_u64]; omega
        refine NP.mk (Int.natCast_nonneg _) (NG.mapE (j := i) rfl hil ?_)
        refine NW.mk (l[i].toNat : Int) (by rw [wrap_u64]; omega) (NW.i64 (by omega) (by omega) (NW.mk _ e1 (NP.mk (by omega) ?_)))
        rw [shl8 _ _ hx hi8]
        have hle : (256 : Nat) ^ i ≤ 256 ^ 7 := Nat.pow_le_pow_right (by decide) (by omega)
        have hr := rdInt_lt l i
        have hb : l[i].toNat * 256 ^ i ≤ 255 * 256 ^ 7 := Nat.mul_le_mul (by omega) hle
        have hor : bitop .or .u64 (rdInt l i : Int) ((l[i].toNat * 256 ^ i : Nat) : Int) = (rdInt l (i + 1) : Int) := by
          rw [or_u64n _ _ (by omega) (by omega), or_add8 hr, rdInt, List.getD_eq_getElem?_getD, List.getElem?_eq_getElem hil]; rfl
        refine NW.i64 (by omega) (by omega) (Canon.mk [] rfl ⟨8 - (i + 1), by omega, i + 1, by omega, rfl, rfl, ?_⟩)
        rw [hor]; rfl
      · have : i = 8 := by omega
        subst this
        refine NW.mk (intOf l) rfl (NP.mk ⟨by omega, by simpa using h8⟩ ?_)
        refine NCall.eq (congrArg (fun x => [AV.list .leaf x]) (List.map_drop).symm) (NCall.call (cloneB_list (l.drop 8) (by simp; omega)) rfl rfl ?_)
        exact NRet.mk [] rfl ⟨.refl _, rfl⟩

end Go.Bv
