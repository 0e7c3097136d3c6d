/- Part of the lift: an abstract walk of the program's code, proved sound, and what it shows of this program. -/
import Derived.Test.YthkdjecnecpckaaPart7
import Derived.Test.YthkdjecnecpckaaPart5
namespace Go.Bv
set_option linter.unusedSimpArgs false
set_option linter.unusedVariables false
set_option maxHeartbeats 4000000
set_option maxRecDepth 20000
open Go Go.Proofs

theorem putNum_own (b : List UInt8) (n : Int) (hb : b.length ≤ 2 ^ 45) (hn : 0 ≤ n ∧ n ≤ 72057594037927935) : ACalls Try.prog Nm.bin_PutNum [bytes b, i64 n] [] (.tup [.own 0 0 (b ++ numB n).length, i64 0]) [.row .vrow .leaf ((b ++ numB n).map u8)] := by
  have h := putNum_walk b n.toNat hb (by omega)
  rw [show ((n.toNat : Nat) : Int) = n by omega] at h
  exact h
def B2 (b : List UInt8) : List Blk := [.row .box .leaf [.own 1 0 b.length], .row .vrow .leaf (b.map u8)]
def B3 (b c : List UInt8) : List Blk := [.row .box .leaf [.own 2 0 c.length], .row .vrow .leaf (b.map u8), .row .vrow .leaf (c.map u8)]
theorem putF1_own (b : List UInt8) (l : List Int) (hb : b.length ≤ 2 ^ 40) (hl : l.length ≤ 2 ^ 30) (h0 : l ≠ []) (hx : ∀ n ∈ l, 0 ≤ n ∧ n ≤ 72057594037927935) :
    ACalls Try.prog Nm.txn_Put_1 [ints l, .ptr 0 0 0] [.row .box .leaf [.own 1 0 b.length], .row .vrow .leaf (b.map u8)] (.tup []) [.row .box .leaf [.own 2 0 (b ++ numsB l).length], .row .vrow .leaf (b.map u8), .row .vrow .leaf ((b ++ numsB l).map u8)] := by
  refine ACalls_of tab (dr_snd tab mixed) Nm.txn_Put_1_h rfl (by kernel_rfl) (Nat.le_of_ble_eq_true rfl) rfl ?_
  refine NLoop.mk [] [0, 1, 5, 6, 7] (fun m vs H => ∃ i, i ≤ l.length ∧ m = l.length - i ∧ H = (if i = 0 then B2 b else B3 b (b ++ numsB (l.take i))) ∧ vs = [ints l, .ptr 0 0 0, ints l, i64 l.length, i64 i]) rfl ?_ ?_
  · exact Canon.mk [] rfl ⟨l.length, 0, Nat.zero_le _, rfl, rfl, by simp [ints, i64]⟩
  · rintro m vs H ⟨i, hi, rfl, rfl, rfl⟩
    by_cases hil : i < l.length
    · have hn := numsB_len (l := l.take i) (fun n hn => hx n (List.mem_of_mem_take hn))
      rw [List.length_take] at hn
      have h1 := putNum_own (b ++ numsB (l.take i)) l[i] (by rw [List.length_append]; omega) (hx _ (List.getElem_mem hil))
      have e : b ++ numsB (l.take i) ++ numB l[i] = b ++ numsB (l.take (i + 1)) := by
        rw [List.append_assoc, ← numsB_snoc, List.take_succ_eq_append_getElem hil]
      rw [e] at h1
      by_cases hi0 : i = 0
      · subst hi0
        rw [if_pos rfl]
        rw [List.take_zero, numsB_nil, List.append_nil] at h1
        unfold B2
        refine ND.yes (by omega) ?_
        refine NP.mk (by omega) ?_
        refine NG.mapN (by omega) ?_
        refine NCall.atA (ACalls.lendOwn (h1) _ (.cons (.own trivial rfl (by simp) (by simp) (by simp [List.take_of_length_le])) (.cons (.same _) .nil)) rfl rfl (flatB)) ?_
        refine NW.i64 (by omega) (by omega) ?_
        exact Canon.mk [2] rfl ⟨l.length - 1, by omega, 1, by omega, rfl, rfl, rfl⟩
      · rw [if_neg hi0]
        unfold B3
        refine ND.yes (by omega) ?_
        refine NP.mk (by omega) ?_
        refine NG.mapN (by omega) ?_
        refine NCall.atA (ACalls.lendOwn (h1) _ (.cons (.own trivial rfl (by simp) (by simp) (by simp [List.take_of_length_le])) (.cons (.same _) .nil)) rfl rfl (flatB)) ?_
        refine NW.i64 (by omega) (by omega) ?_
        exact Canon.mk [3] rfl ⟨l.length - (i + 1), by omega, i + 1, by omega, rfl, by rw [if_neg (by omega)]; rfl, rfl⟩
    · have : i = l.length := by omega
      subst this
      rw [List.take_length, if_neg (by simpa using h0)]
      unfold B3
      refine ND.no (by omega) ?_
      exact NRet.mk [2] rfl ⟨.refl _, rfl⟩
theorem putF1_nil (b : List UInt8) : ACalls Try.prog Nm.txn_Put_1 [ints [], .ptr 0 0 0] [.row .box .leaf [.own 1 0 b.length], .row .vrow .leaf (b.map u8)] (.tup []) [.row .box .leaf [.own 1 0 b.length], .row .vrow .leaf (b.map u8)] := by
  refine ACalls_of tab (dr_snd tab mixed) Nm.txn_Put_1_h rfl (by kernel_rfl) (Nat.le_of_ble_eq_true rfl) rfl ?_
  refine NLoop.mk [] [0, 1, 5, 6, 7] (fun m vs H => m = 0 ∧ H = B2 b ∧ vs = [ints [], .ptr 0 0 0, ints [], i64 0, i64 0]) rfl ?_ ?_
  · exact Canon.mk [] rfl ⟨0, rfl, rfl, by simp [ints, i64]⟩
  · rintro m vs H ⟨rfl, rfl, rfl⟩
    unfold B2
    refine ND.no (by omega) ?_
    exact NRet.mk [] rfl ⟨.refl _, rfl⟩
theorem putF2_own (b s : List UInt8) (hb : b.length ≤ 2 ^ 44) (hs : s.length ≤ 65536) :
    ACalls Try.prog Nm.txn_Put_2 [.str s, .ptr 0 0 0] [.row .box .leaf [.own 1 0 b.length], .row .vrow .leaf (b.map u8)] (.tup []) [.row .box .leaf [.own 2 0 (b ++ textB s).length], .row .vrow .leaf (b.map u8), .row .vrow .leaf ((b ++ textB s).map u8)] := by
  refine ACalls_of tab (dr_snd tab mixed) Nm.txn_Put_2_h rfl (by kernel_rfl) (Nat.le_of_ble_eq_true rfl) rfl ?_
  have h1 := putText_walk b s hb hs
  rw [List.append_assoc] at h1
  refine NCall.atA (ACalls.lendOwn (h1) _ (.cons (.own trivial rfl (by simp) (by simp) (by simp [List.take_of_length_le])) (.cons (.same _) .nil)) rfl rfl (flatB)) ?_
  exact NRet.mk [2] rfl ⟨.refl _, rfl⟩
theorem put_own (b : List UInt8) (t : Txn) (hb : b.length ≤ 2 ^ 20) (ht : smTxn t) (hf : formed t = true) : ACalls Try.prog Nm.txn_Put [bytes b, txnA t] [] (.tup [.own 0 0 (b ++ txnB t).length, i64 0]) [.row .vrow .leaf ((b ++ txnB t).map u8)] := by
  refine ACalls_of tab (dr_snd tab mixed) Nm.txn_Put_h rfl (by kernel_rfl) (Nat.le_of_ble_eq_true rfl) rfl ?_
  have k1 := formed_walk t ht
  rw [hf] at k1
  have k2 := cloneB_walk b (by omega)
  obtain ⟨⟨f1, f2, f3, f4, f5, f6⟩, f7, f8⟩ := formed_facts hf
  have g1 : ∀ n ∈ [t.node, t.seq, (t.deps.length : Int)], 0 ≤ n ∧ n ≤ 72057594037927935 := by simp; omega
  have g2 : ∀ n ∈ t.deps, 0 ≤ n ∧ n ≤ 72057594037927935 := fun n hn => by have := f7 n hn; omega
  have g3 : ∀ n ∈ [(t.effs.length : Int)], 0 ≤ n ∧ n ≤ 72057594037927935 := by simp; omega
  have k3 := putF1_own b _ (by omega) (by simp) (by simp) g1
  have n1 := numsB_len g1
  have n2 := numsB_len g2
  have n3 := numsB_len g3
  simp only [List.length_cons, List.length_nil] at n1 n3
  obtain ⟨b1, e1⟩ : ∃ c, c = b ++ numsB [t.node, t.seq, (t.deps.length : Int)] := ⟨_, rfl⟩
  obtain ⟨b2, e2⟩ : ∃ c, c = b1 ++ numsB t.deps := ⟨_, rfl⟩
  obtain ⟨b3, e3⟩ : ∃ c, c = b2 ++ numsB [(t.effs.length : Int)] := ⟨_, rfl⟩
  have l1 := congrArg List.length e1
  have l2 := congrArg List.length e2
  have l3 := congrArg List.length e3
  rw [List.length_append] at l1 l2 l3
  have k4 := putF1_own b1 t.deps (by omega) (by omega)
  have k5 := putF1_own b2 _ (by omega) (by simp) (by simp) g3
  rw [← e1] at k3
  rw [← e3] at k5
  have efin : b3 ++ t.effs.flatMap effB = b ++ txnB t := by
    rw [e3, e2, e1]
    simp only [txnB, numsB_cons, numsB_nil, List.append_nil, List.append_assoc]
  by_cases hd : t.deps = []
  · have e2' : b2 = b1 := by rw [e2, hd, numsB_nil, List.append_nil]
    rw [e2'] at k5
    have k4 := putF1_nil b1
    rw [← hd] at k4
    refine NCall.call (k1) rfl rfl ?_
    refine NCall.atA (ACalls.frame (k2) rfl _) ?_
    refine NCall.eq (by simp only [List.length_map] <;> exact rfl) ?_
    refine NCall.subA [2, 1] (k3) ?_
    refine NCall.subSame [2, 3] (k4) ?_
    refine NCall.eq (by simp only [List.length_map] <;> exact rfl) ?_
    refine NCall.subA [2, 3] (k5) ?_
    refine NLoop.mk [] [6, 7, 8, 41, 42, 43] (fun m vs H => ∃ i, i ≤ t.effs.length ∧ m = t.effs.length - i ∧ H = [.row .box (.agg 4) [txnA t], .row .box .leaf [.own 2 0 (b3 ++ (t.effs.take i).flatMap effB).length], .row .vrow .leaf ((b3 ++ (t.effs.take i).flatMap effB).map u8)] ∧ vs = [.ptr 1 0 0, .fn Nm.txn_Put_1 [.ptr 1 0 0], .fn Nm.txn_Put_2 [.ptr 1 0 0], effsA t.effs, i64 t.effs.length, i64 i]) rfl ?_ ?_
    · exact Canon.mk [0, 2, 4] rfl ⟨t.effs.length, 0, Nat.zero_le _, rfl, by rw [List.take_zero, List.flatMap_nil, List.append_nil]; rfl, by rw [List.length_map]; rfl⟩
    · rintro m vs H ⟨i, hi, rfl, rfl, rfl⟩
      by_cases hil : i < t.effs.length
      · have hfx := effOk_facts (f8 _ (List.getElem_mem hil))
        have hbl := effsB_len (l := t.effs.take i) (fun n hn => f8 n (List.mem_of_mem_take hn))
        rw [List.length_take] at hbl
        have hsn := flatMap_snoc effB t.effs hil
        obtain ⟨c0, hc0⟩ : ∃ c, c = b3 ++ (t.effs.take i).flatMap effB := ⟨_, rfl⟩
        have lc0 := congrArg List.length hc0
        rw [List.length_append] at lc0
        rw [← hc0]
        have hnext : c0 ++ effB t.effs[i] = b3 ++ (t.effs.take (i + 1)).flatMap effB := by rw [hsn, hc0, List.append_assoc]
        rw [← (steps c0 t.effs[i]).eff] at hnext
        have hl := (steps c0 t.effs[i]).lens hfx
        have hs1 := (steps c0 t.effs[i]).h1
        have hs2 := (steps c0 t.effs[i]).h2
        have hs3 := (steps c0 t.effs[i]).h3
        have hs4 := (steps c0 t.effs[i]).h4
        have hs5 := (steps c0 t.effs[i]).h5
        have hs6 := (steps c0 t.effs[i]).h6
        have hs7 := (steps c0 t.effs[i]).h7
        generalize (steps c0 t.effs[i]).c1 = c1, (steps c0 t.effs[i]).c2 = c2, (steps c0 t.effs[i]).c3 = c3, (steps c0 t.effs[i]).c4 = c4, (steps c0 t.effs[i]).c5 = c5, (steps c0 t.effs[i]).c6 = c6, (steps c0 t.effs[i]).c7 = c7 at *
        obtain ⟨x1, x2, x3, x4, x5, x6, x7, x8, x9⟩ := hfx
        have m1 := putF1_own c0 [t.effs[i].at'] (by omega) (by simp) (by simp) (by simp; omega)
        have m2 := putF2_own c1 t.effs[i].key (by omega) (by omega)
        have m3 := putF2_own c2 t.effs[i].field (by omega) (by omega)
        have m4 := putF1_own c3 [t.effs[i].kind] (by omega) (by simp) (by simp) (by simp; omega)
        have m5 := putF2_own c4 t.effs[i].elem (by omega) (by omega)
        have m6 := putInt_walk c5 t.effs[i].n (by omega)
        have m7 := putF1_own c6 [(t.effs[i].drops.length : Int)] (by omega) (by simp) (by simp) (by simp; omega)
        rw [← hs1] at m1
        rw [← hs2] at m2
        rw [← hs3] at m3
        rw [← hs4] at m4
        rw [← hs5] at m5
        rw [show intBytes (u64of t.effs[i].n) 8 = int8B t.effs[i].n from rfl, ← hs6] at m6
        rw [← hs7] at m7
        refine ND.yes (by omega) ?_
        refine NP.mk (by omega) ?_
        refine NG.mapN (by omega) ?_
        refine NCall.subA [1, 2] (m1) ?_
        refine NCall.subA [1, 4] (m2) ?_
        refine NCall.subA [1, 5] (m3) ?_
        refine NCall.subA [1, 6] (m4) ?_
        refine NCall.subA [1, 7] (m5) ?_
        refine NCall.atA (ACalls.lendOwn (m6) _ (.cons (.own trivial rfl (by simp) (by simp) (by simp [List.take_of_length_le])) (.cons (.same _) .nil)) rfl rfl (flatB)) ?_
        refine NCall.eq (by simp only [List.length_map] <;> exact rfl) ?_
        refine NCall.subA [1, 9] (m7) ?_
        refine NLoop.mk [] [6, 7, 8, 41, 42, 43, 80, 81, 82] (fun m vs H => ∃ j, j ≤ t.effs[i].drops.length ∧ m = t.effs[i].drops.length - j ∧ H = [.row .box (.agg 4) [txnA t], .row .box .leaf [.own 2 0 (c7 ++ (t.effs[i].drops.take j).flatMap dotB).length], .row .vrow .leaf ((c7 ++ (t.effs[i].drops.take j).flatMap dotB).map u8)] ∧
          vs = [.ptr 1 0 0, .fn Nm.txn_Put_1 [.ptr 1 0 0], .fn Nm.txn_Put_2 [.ptr 1 0 0], effsA t.effs, i64 t.effs.length, i64 i, dotsA t.effs[i].drops, i64 t.effs[i].drops.length, i64 j]) rfl ?_ ?_
        · exact Canon.mk [0, 1, 10] rfl ⟨t.effs[i].drops.length, 0, Nat.zero_le _, rfl, by rw [List.take_zero, List.flatMap_nil, List.append_nil]; rfl, by simp only [List.length_map]; rfl⟩
        · rintro m vs H ⟨j, hj, rfl, rfl, rfl⟩
          by_cases hjl : j < t.effs[i].drops.length
          · have hdl := dotsB_len (l := t.effs[i].drops.take j) (fun d hd => x9 d (List.mem_of_mem_take hd))
            rw [List.length_take] at hdl
            have hdo := dotB_ok (x9 _ (List.getElem_mem hjl))
            have hds := flatMap_snoc dotB t.effs[i].drops hjl
            have q1 := putF1_own (c7 ++ (t.effs[i].drops.take j).flatMap dotB) [t.effs[i].drops[j].node, t.effs[i].drops[j].seq, t.effs[i].drops[j].at'] (by rw [List.length_append]; omega) (by simp) (by simp) hdo
            rw [List.append_assoc, show numsB [t.effs[i].drops[j].node, t.effs[i].drops[j].seq, t.effs[i].drops[j].at'] = dotB t.effs[i].drops[j] from rfl, ← hds] at q1
            refine ND.yes (by omega) ?_
            refine NP.mk (by omega) ?_
            refine NG.mapN (by omega) ?_
            refine NCall.subA [1, 2] (q1) ?_
            refine NW.i64 (by omega) (by omega) ?_
            exact Canon.mk [0, 1, 4] rfl ⟨t.effs[i].drops.length - (j + 1), by omega, j + 1, by omega, rfl, rfl, rfl⟩
          · have : j = t.effs[i].drops.length := by omega
            subst this
            rw [List.take_length, hnext]
            refine ND.no (by omega) ?_
            refine NW.i64 (by omega) (by omega) ?_
            exact Canon.mk [0, 1, 2] rfl ⟨t.effs.length - (i + 1), by omega, i + 1, by omega, rfl, rfl, rfl⟩
      · have : i = t.effs.length := by omega
        subst this
        rw [List.take_length, efin]
        refine ND.no (by omega) ?_
        exact NRet.mk [2] rfl ⟨.refl _, rfl⟩
  · have k4 := k4 hd g2
    rw [← e2] at k4
    refine NCall.call (k1) rfl rfl ?_
    refine NCall.atA (ACalls.frame (k2) rfl _) ?_
    refine NCall.eq (by simp only [List.length_map] <;> exact rfl) ?_
    refine NCall.subA [2, 1] (k3) ?_
    refine NCall.subA [2, 3] (k4) ?_
    refine NCall.eq (by simp only [List.length_map] <;> exact rfl) ?_
    refine NCall.subA [2, 4] (k5) ?_
    refine NLoop.mk [] [6, 7, 8, 41, 42, 43] (fun m vs H => ∃ i, i ≤ t.effs.length ∧ m = t.effs.length - i ∧ H = [.row .box (.agg 4) [txnA t], .row .box .leaf [.own 2 0 (b3 ++ (t.effs.take i).flatMap effB).length], .row .vrow .leaf ((b3 ++ (t.effs.take i).flatMap effB).map u8)] ∧ vs = [.ptr 1 0 0, .fn Nm.txn_Put_1 [.ptr 1 0 0], .fn Nm.txn_Put_2 [.ptr 1 0 0], effsA t.effs, i64 t.effs.length, i64 i]) rfl ?_ ?_
    · exact Canon.mk [0, 2, 5] rfl ⟨t.effs.length, 0, Nat.zero_le _, rfl, by rw [List.take_zero, List.flatMap_nil, List.append_nil]; rfl, by rw [List.length_map]; rfl⟩
    · rintro m vs H ⟨i, hi, rfl, rfl, rfl⟩
      by_cases hil : i < t.effs.length
      · have hfx := effOk_facts (f8 _ (List.getElem_mem hil))
        have hbl := effsB_len (l := t.effs.take i) (fun n hn => f8 n (List.mem_of_mem_take hn))
        rw [List.length_take] at hbl
        have hsn := flatMap_snoc effB t.effs hil
        obtain ⟨c0, hc0⟩ : ∃ c, c = b3 ++ (t.effs.take i).flatMap effB := ⟨_, rfl⟩
        have lc0 := congrArg List.length hc0
        rw [List.length_append] at lc0
        rw [← hc0]
        have hnext : c0 ++ effB t.effs[i] = b3 ++ (t.effs.take (i + 1)).flatMap effB := by rw [hsn, hc0, List.append_assoc]
        rw [← (steps c0 t.effs[i]).eff] at hnext
        have hl := (steps c0 t.effs[i]).lens hfx
        have hs1 := (steps c0 t.effs[i]).h1
        have hs2 := (steps c0 t.effs[i]).h2
        have hs3 := (steps c0 t.effs[i]).h3
        have hs4 := (steps c0 t.effs[i]).h4
        have hs5 := (steps c0 t.effs[i]).h5
        have hs6 := (steps c0 t.effs[i]).h6
        have hs7 := (steps c0 t.effs[i]).h7
        generalize (steps c0 t.effs[i]).c1 = c1, (steps c0 t.effs[i]).c2 = c2, (steps c0 t.effs[i]).c3 = c3, (steps c0 t.effs[i]).c4 = c4, (steps c0 t.effs[i]).c5 = c5, (steps c0 t.effs[i]).c6 = c6, (steps c0 t.effs[i]).c7 = c7 at *
        obtain ⟨x1, x2, x3, x4, x5, x6, x7, x8, x9⟩ := hfx
        have m1 := putF1_own c0 [t.effs[i].at'] (by omega) (by simp) (by simp) (by simp; omega)
        have m2 := putF2_own c1 t.effs[i].key (by omega) (by omega)
        have m3 := putF2_own c2 t.effs[i].field (by omega) (by omega)
        have m4 := putF1_own c3 [t.effs[i].kind] (by omega) (by simp) (by simp) (by simp; omega)
        have m5 := putF2_own c4 t.effs[i].elem (by omega) (by omega)
        have m6 := putInt_walk c5 t.effs[i].n (by omega)
        have m7 := putF1_own c6 [(t.effs[i].drops.length : Int)] (by omega) (by simp) (by simp) (by simp; omega)
        rw [← hs1] at m1
        rw [← hs2] at m2
        rw [← hs3] at m3
        rw [← hs4] at m4
        rw [← hs5] at m5
        rw [show intBytes (u64of t.effs[i].n) 8 = int8B t.effs[i].n from rfl, ← hs6] at m6
        rw [← hs7] at m7
        refine ND.yes (by omega) ?_
        refine NP.mk (by omega) ?_
        refine NG.mapN (by omega) ?_
        refine NCall.subA [1, 2] (m1) ?_
        refine NCall.subA [1, 4] (m2) ?_
        refine NCall.subA [1, 5] (m3) ?_
        refine NCall.subA [1, 6] (m4) ?_
        refine NCall.subA [1, 7] (m5) ?_
        refine NCall.atA (ACalls.lendOwn (m6) _ (.cons (.own trivial rfl (by simp) (by simp) (by simp [List.take_of_length_le])) (.cons (.same _) .nil)) rfl rfl (flatB)) ?_
        refine NCall.eq (by simp only [List.length_map] <;> exact rfl) ?_
        refine NCall.subA [1, 9] (m7) ?_
        refine NLoop.mk [] [6, 7, 8, 41, 42, 43, 80, 81, 82] (fun m vs H => ∃ j, j ≤ t.effs[i].drops.length ∧ m = t.effs[i].drops.length - j ∧ H = [.row .box (.agg 4) [txnA t], .row .box .leaf [.own 2 0 (c7 ++ (t.effs[i].drops.take j).flatMap dotB).length], .row .vrow .leaf ((c7 ++ (t.effs[i].drops.take j).flatMap dotB).map u8)] ∧
          vs = [.ptr 1 0 0, .fn Nm.txn_Put_1 [.ptr 1 0 0], .fn Nm.txn_Put_2 [.ptr 1 0 0], effsA t.effs, i64 t.effs.length, i64 i, dotsA t.effs[i].drops, i64 t.effs[i].drops.length, i64 j]) rfl ?_ ?_
        · exact Canon.mk [0, 1, 10] rfl ⟨t.effs[i].drops.length, 0, Nat.zero_le _, rfl, by rw [List.take_zero, List.flatMap_nil, List.append_nil]; rfl, by simp only [List.length_map]; rfl⟩
        · rintro m vs H ⟨j, hj, rfl, rfl, rfl⟩
          by_cases hjl : j < t.effs[i].drops.length
          · have hdl := dotsB_len (l := t.effs[i].drops.take j) (fun d hd => x9 d (List.mem_of_mem_take hd))
            rw [List.length_take] at hdl
            have hdo := dotB_ok (x9 _ (List.getElem_mem hjl))
            have hds := flatMap_snoc dotB t.effs[i].drops hjl
            have q1 := putF1_own (c7 ++ (t.effs[i].drops.take j).flatMap dotB) [t.effs[i].drops[j].node, t.effs[i].drops[j].seq, t.effs[i].drops[j].at'] (by rw [List.length_append]; omega) (by simp) (by simp) hdo
            rw [List.append_assoc, show numsB [t.effs[i].drops[j].node, t.effs[i].drops[j].seq, t.effs[i].drops[j].at'] = dotB t.effs[i].drops[j] from rfl, ← hds] at q1
            refine ND.yes (by omega) ?_
            refine NP.mk (by omega) ?_
            refine NG.mapN (by omega) ?_
            refine NCall.subA [1, 2] (q1) ?_
            refine NW.i64 (by omega) (by omega) ?_
            exact Canon.mk [0, 1, 4] rfl ⟨t.effs[i].drops.length - (j + 1), by omega, j + 1, by omega, rfl, rfl, rfl⟩
          · have : j = t.effs[i].drops.length := by omega
            subst this
            rw [List.take_length, hnext]
            refine ND.no (by omega) ?_
            refine NW.i64 (by omega) (by omega) ?_
            exact Canon.mk [0, 1, 2] rfl ⟨t.effs.length - (i + 1), by omega, i + 1, by omega, rfl, rfl, rfl⟩
      · have : i = t.effs.length := by omega
        subst this
        rw [List.take_length, efin]
        refine ND.no (by omega) ?_
        exact NRet.mk [2] rfl ⟨.refl _, rfl⟩
end Go.Bv
namespace Go.Bv
set_option linter.unusedSimpArgs false
set_option linter.unusedVariables false
set_option maxHeartbeats 4000000
set_option maxRecDepth 20000
open Go Go.Proofs

theorem put_own0 (t : Txn) (ht : smTxn t) (hf : formed t = true) : ACalls Try.prog Nm.txn_Put [.nils, txnA t] [] (.tup [.own 0 0 (txnB t).length, i64 0]) [.row .vrow .leaf ((txnB t).map u8)] := by
  have h := put_own [] t (by simp) ht hf
  rw [List.nil_append] at h
  exact h.args (.cons (.nils _) (.cons (.refl _) .nil))
theorem put_bad0 (t : Txn) (ht : smTxn t) (hf : formed t = false) : ACalls Try.prog Nm.txn_Put [.nils, txnA t] [] (.tup [bytes [], i64 2]) [] :=
  (put_bad [] t ht hf).args (.cons (.nils _) (.cons (.refl _) .nil))
theorem timesS_cnt {α : Type} (f : Rd → α × Rd) : ∀ (k : Nat) (r : Rd), (timesS f k r).1.length = k
  | 0, _ => rfl
  | k + 1, r => by rw [timesS, List.length_cons, timesS_cnt f k]
theorem readT_sm (b : List UInt8) : smTxn (readT b) := by
  unfold readT
  split
  · rw [txnS_eq]
    refine ⟨?_, ?_, ?_, timesS_mem effS_sm _ _⟩
    · have := numS_int (numS (b, 0)).2
      simp only [okInt]; omega
    · simp only [timesS_cnt]
      have := countS_le 8 (numS (numS (b, 0)).2).2 (by omega)
      omega
    · simp only [timesS_cnt]
      have := countS_le 8 (timesS numS (countS 8 (numS (numS (b, 0)).2).2).1.toNat (countS 8 (numS (numS (b, 0)).2).2).2).2 (by omega)
      omega
  · exact ⟨by simp [okInt], by simp, by simp, by simp⟩
theorem txn0_sm : smTxn ⟨0, 0, [], []⟩ := ⟨by simp [okInt], by simp, by simp, by simp⟩
theorem readE_lt (b : List UInt8) (h : readE b ≠ 0) : readT b = ⟨0, 0, [], []⟩ ∧ readR b = [] := by
  unfold readT readR
  rw [if_neg h, if_neg h]
  exact ⟨rfl, rfl⟩
theorem txnBack_walk (t : Txn) (more b : List UInt8) (ht : okTxn t) (hm : more.length ≤ reachBytes) (hb : b.length ≤ reachBytes) : ACalls Try.prog Nm.law13_TxnBack [txnA t, bytes more, bytes b] [] (.bool true) [] := by
  refine ACalls_of tab (dr_snd tab mixed) Nm.law13_TxnBack_h rfl (by kernel_rfl) (Nat.le_of_ble_eq_true rfl) rfl ?_
  have hb' := reach_lt hb
  have hm' := reach_lt hm
  have s1 := short13_walk [t] (by simp) (by simpa using ht)
  cases h1 : shortT [t] with
  | false =>
    rw [h1] at s1
    refine NCall.call (awake13) rfl rfl ?_
    refine NCall.call (s1) rfl rfl ?_
    exact NRet.mk [] rfl ⟨.refl _, rfl⟩
  | true =>
    rw [h1] at s1
    have hst := short1_sm h1 ht
    by_cases h2 : more.length ≤ 1000
    · by_cases h3 : b.length ≤ 6000
      · have r1 := read_walk b (by omega)
        have hq := readT_sm b
        have v1 := formed_walk (readT b) hq
        have hE := readE_lt b
        have hO := @read_ok b
        generalize readT b = u at *
        generalize readR b = w at *
        generalize readE b = e at *
        have z1 := sameV_dec txn0_sm
        cases hf : formed t with
        | false =>
          have c2 := put_bad0 t hst hf
          by_cases he : e = 0
          · subst he
            obtain ⟨o1, o2, o3⟩ := hO rfl
            have c3 := put_own0 u hq o1
            rw [o1] at v1
            have lw := congrArg List.length o3
            rw [List.length_append] at lw
            have d4 := sameB_self b (by omega)
            refine NCall.call (awake13) rfl rfl ?_
            refine NCall.call (s1) rfl rfl ?_
            refine ND.no (by (simp only [List.length_map, List.length_append, List.length_replicate, List.length_cons, List.length_nil, List.length_take, List.length_drop]; omega)) ?_
            refine ND.no (by (simp only [List.length_map, List.length_append, List.length_replicate, List.length_cons, List.length_nil, List.length_take, List.length_drop]; omega)) ?_
            refine NCall.call (c2) rfl rfl ?_
            refine ND.no (by omega) ?_
            refine NCall.call (r1) rfl rfl ?_
            refine ND.yes (by omega) ?_
            refine NCall.atA (ACalls.frame (c3) rfl _) ?_
            refine ND.yes (by omega) ?_
            refine NCall.call (v1) rfl rfl ?_
            refine NFz.own ?_
            refine NApp.endA (by simp) (by simp; omega) ?_
            rw [(mapApp _ _ _)]
            rw [(o3)]
            refine NCall.eq (by simp only [List.length_map] <;> exact rfl) ?_
            refine NCall.lend (d4) (.cons (.own trivial rfl (by simp) (by simp) (by rw [List.drop_zero, List.take_of_length_le (by simp)])) (.cons (.same _) .nil)) rfl rfl ?_
            exact NRet.mk [] rfl ⟨.refl _, rfl⟩
          · obtain ⟨o1, o2⟩ := hE he
            subst o1 o2
            refine NCall.call (awake13) rfl rfl ?_
            refine NCall.call (s1) rfl rfl ?_
            refine ND.no (by (simp only [List.length_map, List.length_append, List.length_replicate, List.length_cons, List.length_nil, List.length_take, List.length_drop]; omega)) ?_
            refine ND.no (by (simp only [List.length_map, List.length_append, List.length_replicate, List.length_cons, List.length_nil, List.length_take, List.length_drop]; omega)) ?_
            refine NCall.call (c2) rfl rfl ?_
            refine ND.no (by omega) ?_
            refine NCall.call (r1) rfl rfl ?_
            refine ND.no (by omega) ?_
            refine NCall.call (ACalls.args (z1) (by repeat (first | exact LeA.refl _ | exact LeA.nils _ | refine LeA.agg ?_ | refine LeA.list _ ?_ | exact LeAs.nil | refine LeAs.cons ?_ ?_))) rfl rfl ?_
            exact NRet.mk [] rfl ⟨.refl _, rfl⟩
        | true =>
          have c2 := put_own0 t hst hf
          have hbl := txnB_len hf
          have r2 := read_walk (txnB t ++ more) (by rw [List.length_append]; omega)
          obtain ⟨e1, e2, e3⟩ := read_put hf (fun e he => (ht.2.2.2.2 e he).2.2.2.2.2.1) more
          rw [e1, e2, e3] at r2
          have d4 := sameV_dec hst
          have d5 := sameB_self more (by omega)
          by_cases he : e = 0
          · subst he
            obtain ⟨o1, o2, o3⟩ := hO rfl
            have c3 := put_own0 u hq o1
            rw [o1] at v1
            have lw := congrArg List.length o3
            rw [List.length_append] at lw
            have d6 := sameB_self b (by omega)
            refine NCall.call (awake13) rfl rfl ?_
            refine NCall.call (s1) rfl rfl ?_
            refine ND.no (by (simp only [List.length_map, List.length_append, List.length_replicate, List.length_cons, List.length_nil, List.length_take, List.length_drop]; omega)) ?_
            refine ND.no (by (simp only [List.length_map, List.length_append, List.length_replicate, List.length_cons, List.length_nil, List.length_take, List.length_drop]; omega)) ?_
            refine NCall.atA (ACalls.frame (c2) rfl _) ?_
            refine ND.yes (by omega) ?_
            refine NFz.own ?_
            refine NApp.endA (by simp) (by simp; omega) ?_
            rw [(mapApp _ _ _)]
            refine NCall.eq (by simp only [List.length_map] <;> exact rfl) ?_
            refine NCall.frzAllN [2] (r2) (.cons (.own (by simp) rfl (by simp) (by simp) (by rw [List.drop_zero, List.take_of_length_le (by simp)])) .nil) rfl rfl rfl ?_
            refine ND.yes (by omega) ?_
            refine NCall.call (d4) rfl rfl ?_
            refine NCall.call (d5) rfl rfl ?_
            refine NCall.call (r1) rfl rfl ?_
            refine ND.yes (by omega) ?_
            refine NCall.atA (ACalls.frame (c3) rfl _) ?_
            refine ND.yes (by omega) ?_
            refine NCall.call (v1) rfl rfl ?_
            refine NFz.own ?_
            refine NApp.endA (by simp) (by simp; omega) ?_
            rw [(mapApp _ _ _)]
            rw [(o3)]
            refine NCall.eq (by simp only [List.length_map] <;> exact rfl) ?_
            refine NCall.frzAllN [6] (d6) (.cons (.own (by simp) rfl (by simp) (by simp) (by rw [List.drop_zero, List.take_of_length_le (by simp)])) (.cons (.same _) .nil)) rfl rfl rfl ?_
            exact NRet.mk [] rfl ⟨.refl _, rfl⟩
          · obtain ⟨o1, o2⟩ := hE he
            subst o1 o2
            refine NCall.call (awake13) rfl rfl ?_
            refine NCall.call (s1) rfl rfl ?_
            refine ND.no (by (simp only [List.length_map, List.length_append, List.length_replicate, List.length_cons, List.length_nil, List.length_take, List.length_drop]; omega)) ?_
            refine ND.no (by (simp only [List.length_map, List.length_append, List.length_replicate, List.length_cons, List.length_nil, List.length_take, List.length_drop]; omega)) ?_
            refine NCall.atA (ACalls.frame (c2) rfl _) ?_
            refine ND.yes (by omega) ?_
            refine NFz.own ?_
            refine NApp.endA (by simp) (by simp; omega) ?_
            rw [(mapApp _ _ _)]
            refine NCall.eq (by simp only [List.length_map] <;> exact rfl) ?_
            refine NCall.frzAllN [2] (r2) (.cons (.own (by simp) rfl (by simp) (by simp) (by rw [List.drop_zero, List.take_of_length_le (by simp)])) .nil) rfl rfl rfl ?_
            refine ND.yes (by omega) ?_
            refine NCall.call (d4) rfl rfl ?_
            refine NCall.call (d5) rfl rfl ?_
            refine NCall.call (r1) rfl rfl ?_
            refine ND.no (by omega) ?_
            refine NCall.call (ACalls.args (z1) (by repeat (first | exact LeA.refl _ | exact LeA.nils _ | refine LeA.agg ?_ | refine LeA.list _ ?_ | exact LeAs.nil | refine LeAs.cons ?_ ?_))) rfl rfl ?_
            exact NRet.mk [] rfl ⟨.refl _, rfl⟩
      · refine NCall.call (awake13) rfl rfl ?_
        refine NCall.call (s1) rfl rfl ?_
        refine ND.no (by (simp only [List.length_map, List.length_append, List.length_replicate, List.length_cons, List.length_nil, List.length_take, List.length_drop]; omega)) ?_
        refine ND.yes (by (simp only [List.length_map, List.length_append, List.length_replicate, List.length_cons, List.length_nil, List.length_take, List.length_drop]; omega)) ?_
        exact NRet.mk [] rfl ⟨.refl _, rfl⟩
    · refine NCall.call (awake13) rfl rfl ?_
      refine NCall.call (s1) rfl rfl ?_
      refine ND.yes (by (simp only [List.length_map, List.length_append, List.length_replicate, List.length_cons, List.length_nil, List.length_take, List.length_drop]; omega)) ?_
      exact NRet.mk [] rfl ⟨.refl _, rfl⟩
theorem txnCut_walk (t : Txn) (n : Int) (ht : okTxn t) (hn : okInt n) : ACalls Try.prog Nm.law13_TxnCut [txnA t, i64 n] [] (.bool true) [] := by
  refine ACalls_of tab (dr_snd tab mixed) Nm.law13_TxnCut_h rfl (by kernel_rfl) (Nat.le_of_ble_eq_true rfl) rfl ?_
  have s1 := short13_walk [t] (by simp) (by simpa using ht)
  cases h1 : shortT [t] with
  | false =>
    rw [h1] at s1
    refine NCall.call (awake13) rfl rfl ?_
    refine NCall.call (s1) rfl rfl ?_
    exact NRet.mk [] rfl ⟨.refl _, rfl⟩
  | true =>
    rw [h1] at s1
    have hst := short1_sm h1 ht
    cases hf : formed t with
    | false =>
      have c2 := put_bad0 t hst hf
      refine NCall.call (awake13) rfl rfl ?_
      refine NCall.call (s1) rfl rfl ?_
      refine NCall.call (c2) rfl rfl ?_
      refine ND.no (by omega) ?_
      exact NRet.mk [] rfl ⟨.refl _, rfl⟩
    | true =>
      have c2 := (put_walk [] t (by simp) hst hf).args (.cons (.nils .leaf) (.cons (.refl _) .nil))
      rw [List.nil_append] at c2
      have hbl := txnB_len hf
      by_cases hc : 0 ≤ n ∧ n < (txnB t).length
      · have r2 := read_walk ((txnB t).take n.toNat) (by rw [List.length_take]; omega)
        obtain ⟨e1, e2, e3⟩ := read_cut hf (fun e he => (ht.2.2.2.2 e he).2.2.2.2.2.1) (show n.toNat < (txnB t).length by omega)
        rw [e1, e2, e3] at r2
        have z1 := sameV_dec txn0_sm
        have e4 : List.take n.toNat (List.map u8 (txnB t)) = List.map u8 ((txnB t).take n.toNat) := List.map_take.symm
        refine NCall.call (awake13) rfl rfl ?_
        refine NCall.call (s1) rfl rfl ?_
        refine NCall.call (c2) rfl rfl ?_
        refine ND.yes (by omega) ?_
        refine ND.no (by omega) ?_
        refine ND.no (by (simp only [List.length_map, List.length_append, List.length_replicate, List.length_cons, List.length_nil, List.length_take, List.length_drop]; omega)) ?_
        refine NP.mk (by (simp only [List.length_map, List.length_append, List.length_replicate, List.length_cons, List.length_nil, List.length_take, List.length_drop]; omega)) ?_
        rw [(e4)]
        refine NCall.call (r2) rfl rfl ?_
        refine ND.yes (by omega) ?_
        refine NCall.call (ACalls.args (z1) (by repeat (first | exact LeA.refl _ | exact LeA.nils _ | refine LeA.agg ?_ | refine LeA.list _ ?_ | exact LeAs.nil | refine LeAs.cons ?_ ?_))) rfl rfl ?_
        refine ND.yes (by rfl) ?_
        exact NRet.mk [] rfl ⟨.refl _, rfl⟩
      · refine NCall.call (awake13) rfl rfl ?_
        refine NCall.call (s1) rfl rfl ?_
        refine NCall.call (c2) rfl rfl ?_
        refine ND.yes (by omega) ?_
        refine NB.dec (fun hk2 => ?_) (fun hk2 => ?_)
        · exact NRet.mk [] rfl ⟨.refl _, rfl⟩
        refine ND.yes (by (simp only [List.length_map, List.length_append, List.length_replicate, List.length_cons, List.length_nil, List.length_take, List.length_drop]; omega)) ?_
        exact NRet.mk [] rfl ⟨.refl _, rfl⟩
theorem onlyT_sm {t : Txn} (h : smTxn t) (z : List (List UInt8)) : smTxn (onlyT t z) := only_sm h z
theorem txnOnlyL_walk (t : Txn) (y z : List (List UInt8)) (ht : okTxn t) (hy : y.length ≤ reachBytes) (hyx : ∀ e ∈ y, e.length ≤ reachBytes) (hz : z.length ≤ reachBytes) (hzx : ∀ e ∈ z, e.length ≤ reachBytes) : ACalls Try.prog Nm.law13_TxnOnly [txnA t, strsA y, strsA z] [] (.bool true) [] := by
  refine ACalls_of tab (dr_snd2 tab mixed) Nm.law13_TxnOnly_h rfl (by kernel_rfl) (Nat.le_of_ble_eq_true rfl) rfl ?_
  have hy' := reach_lt hy
  have hz' := reach_lt hz
  have s1 := short13_walk [t] (by simp) (by simpa using ht)
  have s2 := short8_walk y (by omega) hyx
  have s3 := short8_walk z (by omega) hzx
  cases h1 : shortT [t] with
  | false =>
    rw [h1] at s1
    refine NCall.call (awake13) rfl rfl ?_
    refine NCall.call (s1) rfl rfl ?_
    exact NRet.mk [] rfl ⟨.refl _, rfl⟩
  | true =>
    rw [h1] at s1
    have hst := short1_sm h1 ht
    cases h2 : (decide (y.length ≤ 60) && y.all fun e => decide (e.length ≤ 200)) with
    | false =>
      rw [h2] at s2
      refine NCall.call (awake13) rfl rfl ?_
      refine NCall.call (s1) rfl rfl ?_
      refine NCall.call (s2) rfl rfl ?_
      exact NRet.mk [] rfl ⟨.refl _, rfl⟩
    | true =>
      rw [h2] at s2
      rw [Bool.and_eq_true] at h2
      have h2 := of_decide_eq_true h2.1
      cases h3 : (decide (z.length ≤ 60) && z.all fun e => decide (e.length ≤ 200)) with
      | false =>
        rw [h3] at s3
        refine NCall.call (awake13) rfl rfl ?_
        refine NCall.call (s1) rfl rfl ?_
        refine NCall.call (s2) rfl rfl ?_
        refine NCall.call (s3) rfl rfl ?_
        exact NRet.mk [] rfl ⟨.refl _, rfl⟩
      | true =>
        rw [h3] at s3
        rw [Bool.and_eq_true] at h3
        have h3 := of_decide_eq_true h3.1
        have c1 := formed_walk t hst
        cases hf : formed t with
        | false =>
          rw [hf] at c1
          refine NCall.call (awake13) rfl rfl ?_
          refine NCall.call (s1) rfl rfl ?_
          refine NCall.call (s2) rfl rfl ?_
          refine NCall.call (s3) rfl rfl ?_
          refine NCall.call (c1) rfl rfl ?_
          exact NRet.mk [] rfl ⟨.refl _, rfl⟩
        | true =>
          rw [hf] at c1
          have o1 := txnOnly_walk t y hst (by omega)
          have o2 := txnOnly_walk (onlyT t y) z (only_sm hst y) (by omega)
          have o3 := txnOnly_walk t z hst (by omega)
          have o4 := txnOnly_walk (onlyT t z) y (only_sm hst z) (by omega)
          have ec : onlyT (onlyT t y) z = onlyT (onlyT t z) y := by
            unfold onlyT
            simp only [effsOnly_comm t.effs y z]
          rw [ec] at o2
          have o5 := txnOnlyAll_walk t hst
          have f1 := formed_walk (onlyT t y) (only_sm hst y)
          rw [show formed (onlyT t y) = true from formed_only hf y] at f1
          have f2 := formed_walk (onlyT (onlyT t z) y) (only_sm (only_sm hst z) y)
          rw [show formed (onlyT (onlyT t z) y) = true from formed_only (formed_only hf z) y] at f2
          have d1 := sameV_dec (only_sm (only_sm hst z) y)
          have d2 := sameV_dec hst
          refine NCall.call (awake13) rfl rfl ?_
          refine NCall.call (s1) rfl rfl ?_
          refine NCall.call (s2) rfl rfl ?_
          refine NCall.call (s3) rfl rfl ?_
          refine NCall.call (c1) rfl rfl ?_
          refine NP.mk (by kernel_rfl) ?_
          apply NDr.rd [0]
          · intro fH TH
            exact ⟨rfl, rfl⟩
          apply NDr.pure
          · exact ⟨rfl, rfl⟩
          apply NDr.pure
          · refine NCall.call (o1) rfl rfl ?_
            exact ⟨rfl, rfl⟩
          apply NDr.rd [0]
          · intro fH TH
            exact ⟨rfl, rfl⟩
          apply NDr.pure
          · exact ⟨rfl, rfl⟩
          apply NDr.pure
          · refine NCall.call (o1) rfl rfl ?_
            exact ⟨rfl, rfl⟩
          apply NDr.pure
          · exact ⟨rfl, rfl⟩
          apply NDr.pure
          · refine NCall.call (o2) rfl rfl ?_
            exact ⟨rfl, rfl⟩
          apply NDr.efw []
          · exact ⟨rfl, rfl⟩
          · repeat (first | exact True.intro | refine ⟨by first | exact rfl | exact True.intro, ?_⟩)
          apply NDr.efw []
          · exact ⟨rfl, rfl⟩
          · repeat (first | exact True.intro | refine ⟨by first | exact rfl | exact True.intro, ?_⟩)
          apply NDr.efw [1]
          · exact ⟨rfl, rfl⟩
          · repeat (first | exact True.intro | refine ⟨by first | exact rfl | exact True.intro, ?_⟩)
          apply NDr.efw [2]
          · exact ⟨rfl, rfl⟩
          · repeat (first | exact True.intro | refine ⟨by first | exact rfl | exact True.intro, ?_⟩)
          refine NP.mk (by kernel_rfl) ?_
          refine NP.mk (by kernel_rfl) ?_
          apply NDr.rd [1]
          · intro fH TH
            exact ⟨rfl, rfl⟩
          apply NDr.pure
          · refine NCall.call (f1) rfl rfl ?_
            exact ⟨rfl, rfl⟩
          apply NDr.pure
          · exact ⟨rfl, rfl⟩
          apply NDr.rd [2]
          · intro fH TH
            exact ⟨rfl, rfl⟩
          apply NDr.pure
          · refine NCall.call (f2) rfl rfl ?_
            exact ⟨rfl, rfl⟩
          apply NDr.pure
          · exact ⟨rfl, rfl⟩
          apply NDr.pure
          · exact ⟨rfl, rfl⟩
          apply NDr.rd [2]
          · intro fH TH
            exact ⟨rfl, rfl⟩
          apply NDr.rd [0]
          · intro fH TH
            exact ⟨rfl, rfl⟩
          apply NDr.pure
          · exact ⟨rfl, rfl⟩
          apply NDr.pure
          · refine NCall.call (o3) rfl rfl ?_
            exact ⟨rfl, rfl⟩
          apply NDr.pure
          · exact ⟨rfl, rfl⟩
          apply NDr.pure
          · refine NCall.call (o4) rfl rfl ?_
            exact ⟨rfl, rfl⟩
          apply NDr.pure
          · refine NCall.call (d1) rfl rfl ?_
            exact ⟨rfl, rfl⟩
          apply NDr.pure
          · exact ⟨rfl, rfl⟩
          apply NDr.pure
          · exact ⟨rfl, rfl⟩
          apply NDr.rd [0]
          · intro fH TH
            exact ⟨rfl, rfl⟩
          apply NDr.pure
          · exact ⟨rfl, rfl⟩
          apply NDr.pure
          · refine NCall.call (o5) rfl rfl ?_
            exact ⟨rfl, rfl⟩
          apply NDr.rd [0]
          · intro fH TH
            exact ⟨rfl, rfl⟩
          apply NDr.pure
          · refine NCall.call (d2) rfl rfl ?_
            exact ⟨rfl, rfl⟩
          apply NDr.pure
          · exact ⟨rfl, rfl⟩
          apply NDr.pure
          · exact ⟨rfl, rfl⟩
          refine NP.mk (by kernel_rfl) ?_
          exact NRet.mk [] rfl ⟨.refl _, rfl⟩
end Go.Bv
namespace Go.Bv
open Go Go.Proofs

theorem ty_Vec {n : Nat} {xs : List AV} (h : TyC Try.prog n 23 xs) : ∃ a : List (Int), xs = [.list (.leaf) (a.map i64)] ∧ (a.length ≤ reachBytes ∧ ∀ y ∈ a, okInt y) := by
  obtain ⟨l, rfl, hl, hx⟩ := ty_slice h Try.underlying23
  have hs : shOf Try.prog 3 = .leaf := by exact shOf_int Try.underlying3
  have hb : 1 ≤ Try.prog.bytesOf 3 := Nat.le_of_ble_eq_true (by kernel_rfl)
  rw [hs] at hx ⊢
  have : ∀ x ∈ l, ∃ a : Int, x = i64 a ∧ okInt a := by
    intro x hxl
    obtain ⟨ys, hy, rfl⟩ := hx x hxl
    obtain ⟨a, e1, g1⟩ := ty_i64 hy Try.underlying3
    exact ⟨a, by rw [e1]; rfl, g1⟩
  obtain ⟨a, rfl, ha⟩ := list_of' this
  exact ⟨a, rfl, Nat.le_trans (by simpa using Nat.le_mul_of_pos_right (a.map i64).length hb) hl, ha⟩

theorem ty_Dot {n : Nat} {xs : List AV} (h : TyC Try.prog n 47 xs) : ∃ a : Dot, xs = dotC a ∧ okDot a := by
  obtain ⟨hl, hf⟩ := ty_struct h Try.underlying47
  have c3 : Try.prog.cellsOf 3 = 1 := by kernel_rfl
  have c47 : Try.prog.cellsOf 47 = 3 := by kernel_rfl
  rw [c47] at hl
  have h0 := hf _ (List.mem_cons_self ..)
  dsimp only at h0
  rw [c3] at h0
  obtain ⟨a0, e0, g0⟩ := ty_i64 h0 Try.underlying3
  have e0 := drop_more e0 rfl
  have h1 := hf _ (List.mem_cons_of_mem _ (List.mem_cons_self ..))
  dsimp only at h1
  rw [c3] at h1
  obtain ⟨a1, e1, g1⟩ := ty_i64 h1 Try.underlying3
  have e1 := drop_more e1 rfl
  have h2 := hf _ (List.mem_cons_of_mem _ (List.mem_cons_of_mem _ (List.mem_cons_self ..)))
  dsimp only at h2
  rw [c3] at h2
  obtain ⟨a2, e2, g2⟩ := ty_i64 h2 Try.underlying3
  have e2 := drop_more e2 rfl
  rw [drop_all' hl] at e2
  rw [e2] at e1
  rw [e1] at e0
  exact ⟨⟨a0, a1, a2⟩, by rw [List.drop_zero] at e0; rw [e0]; rfl, g0, g1, g2⟩

theorem ty_LDot {n : Nat} {xs : List AV} (h : TyC Try.prog n 64 xs) : ∃ a : List (Dot), xs = [.list (.agg 3) (a.map dotA)] ∧ (a.length ≤ reachBytes ∧ ∀ y ∈ a, okDot y) := by
  obtain ⟨l, rfl, hl, hx⟩ := ty_slice h Try.underlying64
  have hs : shOf Try.prog 47 = .agg 3 := by rw [shOf_struct Try.underlying47, show Try.prog.cellsOf 47 = 3 by kernel_rfl]
  have hb : 1 ≤ Try.prog.bytesOf 47 := Nat.le_of_ble_eq_true (by kernel_rfl)
  rw [hs] at hx ⊢
  have : ∀ x ∈ l, ∃ a : Dot, x = dotA a ∧ okDot a := by
    intro x hxl
    obtain ⟨ys, hy, rfl⟩ := hx x hxl
    obtain ⟨a, e1, g1⟩ := ty_Dot hy
    exact ⟨a, by rw [e1]; rfl, g1⟩
  obtain ⟨a, rfl, ha⟩ := list_of' this
  exact ⟨a, rfl, Nat.le_trans (by simpa using Nat.le_mul_of_pos_right (a.map dotA).length hb) hl, ha⟩

theorem ty_Eff {n : Nat} {xs : List AV} (h : TyC Try.prog n 66 xs) : ∃ a : Eff, xs = effC a ∧ okEff a := by
  obtain ⟨hl, hf⟩ := ty_struct h Try.underlying66
  have c3 : Try.prog.cellsOf 3 = 1 := by kernel_rfl
  have c9 : Try.prog.cellsOf 9 = 1 := by kernel_rfl
  have c2 : Try.prog.cellsOf 2 = 1 := by kernel_rfl
  have c64 : Try.prog.cellsOf 64 = 1 := by kernel_rfl
  have c66 : Try.prog.cellsOf 66 = 7 := by kernel_rfl
  rw [c66] at hl
  have h0 := hf _ (List.mem_cons_self ..)
  dsimp only at h0
  rw [c3] at h0
  obtain ⟨a0, e0, g0⟩ := ty_i64 h0 Try.underlying3
  have e0 := drop_more e0 rfl
  have h1 := hf _ (List.mem_cons_of_mem _ (List.mem_cons_self ..))
  dsimp only at h1
  rw [c9] at h1
  obtain ⟨a1, e1, g1⟩ := ty_str h1 Try.underlying9
  have e1 := drop_more e1 rfl
  have h2 := hf _ (List.mem_cons_of_mem _ (List.mem_cons_of_mem _ (List.mem_cons_self ..)))
  dsimp only at h2
  rw [c9] at h2
  obtain ⟨a2, e2, g2⟩ := ty_str h2 Try.underlying9
  have e2 := drop_more e2 rfl
  have h3 := hf _ (List.mem_cons_of_mem _ (List.mem_cons_of_mem _ (List.mem_cons_of_mem _ (List.mem_cons_self ..))))
  dsimp only at h3
  rw [c3] at h3
  obtain ⟨a3, e3, g3⟩ := ty_i64 h3 Try.underlying3
  have e3 := drop_more e3 rfl
  have h4 := hf _ (List.mem_cons_of_mem _ (List.mem_cons_of_mem _ (List.mem_cons_of_mem _ (List.mem_cons_of_mem _ (List.mem_cons_self ..)))))
  dsimp only at h4
  rw [c9] at h4
  obtain ⟨a4, e4, g4⟩ := ty_str h4 Try.underlying9
  have e4 := drop_more e4 rfl
  have h5 := hf _ (List.mem_cons_of_mem _ (List.mem_cons_of_mem _ (List.mem_cons_of_mem _ (List.mem_cons_of_mem _ (List.mem_cons_of_mem _ (List.mem_cons_self ..))))))
  dsimp only at h5
  rw [c2] at h5
  obtain ⟨a5, e5, g5⟩ := ty_i64 h5 Try.underlying2
  have e5 := drop_more e5 rfl
  have h6 := hf _ (List.mem_cons_of_mem _ (List.mem_cons_of_mem _ (List.mem_cons_of_mem _ (List.mem_cons_of_mem _ (List.mem_cons_of_mem _ (List.mem_cons_of_mem _ (List.mem_cons_self ..)))))))
  dsimp only at h6
  rw [c64] at h6
  obtain ⟨a6, e6, g6⟩ := ty_LDot h6
  have e6 := drop_more e6 rfl
  rw [drop_all' hl] at e6
  rw [e6] at e5
  rw [e5] at e4
  rw [e4] at e3
  rw [e3] at e2
  rw [e2] at e1
  rw [e1] at e0
  exact ⟨⟨a0, a1, a2, a3, a4, a5, a6⟩, by rw [List.drop_zero] at e0; rw [e0]; rfl, g0, g1, g2, g3, g4, g5, g6⟩

theorem ty_LEff {n : Nat} {xs : List AV} (h : TyC Try.prog n 24 xs) : ∃ a : List (Eff), xs = [.list (.agg 7) (a.map effA)] ∧ (a.length ≤ reachBytes ∧ ∀ y ∈ a, okEff y) := by
  obtain ⟨l, rfl, hl, hx⟩ := ty_slice h Try.underlying24
  have hs : shOf Try.prog 66 = .agg 7 := by rw [shOf_struct Try.underlying66, show Try.prog.cellsOf 66 = 7 by kernel_rfl]
  have hb : 1 ≤ Try.prog.bytesOf 66 := Nat.le_of_ble_eq_true (by kernel_rfl)
  rw [hs] at hx ⊢
  have : ∀ x ∈ l, ∃ a : Eff, x = effA a ∧ okEff a := by
    intro x hxl
    obtain ⟨ys, hy, rfl⟩ := hx x hxl
    obtain ⟨a, e1, g1⟩ := ty_Eff hy
    exact ⟨a, by rw [e1]; rfl, g1⟩
  obtain ⟨a, rfl, ha⟩ := list_of' this
  exact ⟨a, rfl, Nat.le_trans (by simpa using Nat.le_mul_of_pos_right (a.map effA).length hb) hl, ha⟩

theorem ty_Txn {n : Nat} {xs : List AV} (h : TyC Try.prog n 26 xs) : ∃ a : Txn, xs = txnC a ∧ okTxn a := by
  obtain ⟨hl, hf⟩ := ty_struct h Try.underlying26
  have c3 : Try.prog.cellsOf 3 = 1 := by kernel_rfl
  have c23 : Try.prog.cellsOf 23 = 1 := by kernel_rfl
  have c24 : Try.prog.cellsOf 24 = 1 := by kernel_rfl
  have c26 : Try.prog.cellsOf 26 = 4 := by kernel_rfl
  rw [c26] at hl
  have h0 := hf _ (List.mem_cons_self ..)
  dsimp only at h0
  rw [c3] at h0
  obtain ⟨a0, e0, g0⟩ := ty_i64 h0 Try.underlying3
  have e0 := drop_more e0 rfl
  have h1 := hf _ (List.mem_cons_of_mem _ (List.mem_cons_self ..))
  dsimp only at h1
  rw [c3] at h1
  obtain ⟨a1, e1, g1⟩ := ty_i64 h1 Try.underlying3
  have e1 := drop_more e1 rfl
  have h2 := hf _ (List.mem_cons_of_mem _ (List.mem_cons_of_mem _ (List.mem_cons_self ..)))
  dsimp only at h2
  rw [c23] at h2
  obtain ⟨a2, e2, g2⟩ := ty_Vec h2
  have e2 := drop_more e2 rfl
  have h3 := hf _ (List.mem_cons_of_mem _ (List.mem_cons_of_mem _ (List.mem_cons_of_mem _ (List.mem_cons_self ..))))
  dsimp only at h3
  rw [c24] at h3
  obtain ⟨a3, e3, g3⟩ := ty_LEff h3
  have e3 := drop_more e3 rfl
  rw [drop_all' hl] at e3
  rw [e3] at e2
  rw [e2] at e1
  rw [e1] at e0
  exact ⟨⟨a0, a1, a2, a3⟩, by rw [List.drop_zero] at e0; rw [e0]; rfl, g0, g1, g2, g3⟩

theorem ty_LTxn {n : Nat} {xs : List AV} (h : TyC Try.prog n 30 xs) : ∃ a : List (Txn), xs = [.list (.agg 4) (a.map txnA)] ∧ (a.length ≤ reachBytes ∧ ∀ y ∈ a, okTxn y) := by
  obtain ⟨l, rfl, hl, hx⟩ := ty_slice h Try.underlying30
  have hs : shOf Try.prog 26 = .agg 4 := by rw [shOf_struct Try.underlying26, show Try.prog.cellsOf 26 = 4 by kernel_rfl]
  have hb : 1 ≤ Try.prog.bytesOf 26 := Nat.le_of_ble_eq_true (by kernel_rfl)
  rw [hs] at hx ⊢
  have : ∀ x ∈ l, ∃ a : Txn, x = txnA a ∧ okTxn a := by
    intro x hxl
    obtain ⟨ys, hy, rfl⟩ := hx x hxl
    obtain ⟨a, e1, g1⟩ := ty_Txn hy
    exact ⟨a, by rw [e1]; rfl, g1⟩
  obtain ⟨a, rfl, ha⟩ := list_of' this
  exact ⟨a, rfl, Nat.le_trans (by simpa using Nat.le_mul_of_pos_right (a.map txnA).length hb) hl, ha⟩

theorem ty_Item {n : Nat} {xs : List AV} (h : TyC Try.prog n 68 xs) : ∃ a : Item, xs = itemC a ∧ okItem a := by
  obtain ⟨hl, hf⟩ := ty_struct h Try.underlying68
  have c9 : Try.prog.cellsOf 9 = 1 := by kernel_rfl
  have c3 : Try.prog.cellsOf 3 = 1 := by kernel_rfl
  have c2 : Try.prog.cellsOf 2 = 1 := by kernel_rfl
  have c47 : Try.prog.cellsOf 47 = 3 := by kernel_rfl
  have c68 : Try.prog.cellsOf 68 = 8 := by kernel_rfl
  rw [c68] at hl
  have h0 := hf _ (List.mem_cons_self ..)
  dsimp only at h0
  rw [c9] at h0
  obtain ⟨a0, e0, g0⟩ := ty_str h0 Try.underlying9
  have e0 := drop_more e0 rfl
  have h1 := hf _ (List.mem_cons_of_mem _ (List.mem_cons_self ..))
  dsimp only at h1
  rw [c9] at h1
  obtain ⟨a1, e1, g1⟩ := ty_str h1 Try.underlying9
  have e1 := drop_more e1 rfl
  have h2 := hf _ (List.mem_cons_of_mem _ (List.mem_cons_of_mem _ (List.mem_cons_self ..)))
  dsimp only at h2
  rw [c3] at h2
  obtain ⟨a2, e2, g2⟩ := ty_i64 h2 Try.underlying3
  have e2 := drop_more e2 rfl
  have h3 := hf _ (List.mem_cons_of_mem _ (List.mem_cons_of_mem _ (List.mem_cons_of_mem _ (List.mem_cons_self ..))))
  dsimp only at h3
  rw [c9] at h3
  obtain ⟨a3, e3, g3⟩ := ty_str h3 Try.underlying9
  have e3 := drop_more e3 rfl
  have h4 := hf _ (List.mem_cons_of_mem _ (List.mem_cons_of_mem _ (List.mem_cons_of_mem _ (List.mem_cons_of_mem _ (List.mem_cons_self ..)))))
  dsimp only at h4
  rw [c2] at h4
  obtain ⟨a4, e4, g4⟩ := ty_i64 h4 Try.underlying2
  have e4 := drop_more e4 rfl
  have h5 := hf _ (List.mem_cons_of_mem _ (List.mem_cons_of_mem _ (List.mem_cons_of_mem _ (List.mem_cons_of_mem _ (List.mem_cons_of_mem _ (List.mem_cons_self ..))))))
  dsimp only at h5
  rw [c47] at h5
  obtain ⟨a5, e5, g5⟩ := ty_Dot h5
  have e5 := drop_more e5 rfl
  rw [drop_all' hl] at e5
  rw [e5] at e4
  rw [e4] at e3
  rw [e3] at e2
  rw [e2] at e1
  rw [e1] at e0
  exact ⟨⟨a0, a1, a2, a3, a4, a5⟩, by rw [List.drop_zero] at e0; rw [e0]; rfl, g0, g1, g2, g3, g4, g5⟩

theorem ty_LItem {n : Nat} {xs : List AV} (h : TyC Try.prog n 52 xs) : ∃ a : List (Item), xs = [.list (.agg 8) (a.map itemA)] ∧ (a.length ≤ reachBytes ∧ ∀ y ∈ a, okItem y) := by
  obtain ⟨l, rfl, hl, hx⟩ := ty_slice h Try.underlying52
  have hs : shOf Try.prog 68 = .agg 8 := by rw [shOf_struct Try.underlying68, show Try.prog.cellsOf 68 = 8 by kernel_rfl]
  have hb : 1 ≤ Try.prog.bytesOf 68 := Nat.le_of_ble_eq_true (by kernel_rfl)
  rw [hs] at hx ⊢
  have : ∀ x ∈ l, ∃ a : Item, x = itemA a ∧ okItem a := by
    intro x hxl
    obtain ⟨ys, hy, rfl⟩ := hx x hxl
    obtain ⟨a, e1, g1⟩ := ty_Item hy
    exact ⟨a, by rw [e1]; rfl, g1⟩
  obtain ⟨a, rfl, ha⟩ := list_of' this
  exact ⟨a, rfl, Nat.le_trans (by simpa using Nat.le_mul_of_pos_right (a.map itemA).length hb) hl, ha⟩

theorem ty_Lstring {n : Nat} {xs : List AV} (h : TyC Try.prog n 41 xs) : ∃ a : List (List UInt8), xs = [.list (.leaf) (a.map AV.str)] ∧ (a.length ≤ reachBytes ∧ ∀ y ∈ a, y.length ≤ reachBytes) := by
  obtain ⟨l, rfl, hl, hx⟩ := ty_slice h Try.underlying41
  have hs : shOf Try.prog 9 = .leaf := by exact shOf_str Try.underlying9
  have hb : 1 ≤ Try.prog.bytesOf 9 := Nat.le_of_ble_eq_true (by kernel_rfl)
  rw [hs] at hx ⊢
  have : ∀ x ∈ l, ∃ a : List UInt8, x = AV.str a ∧ a.length ≤ reachBytes := by
    intro x hxl
    obtain ⟨ys, hy, rfl⟩ := hx x hxl
    obtain ⟨a, e1, g1⟩ := ty_str hy Try.underlying9
    exact ⟨a, by rw [e1]; rfl, g1⟩
  obtain ⟨a, rfl, ha⟩ := list_of' this
  exact ⟨a, rfl, Nat.le_trans (by simpa using Nat.le_mul_of_pos_right (a.map AV.str).length hb) hl, ha⟩

end Go.Bv
