/- Part of the lift: an abstract walk of the program's code, proved sound, and what it shows of this program. -/
import Derived.Test.YtkehoabgejdpgaaSvOrdLaw
import Derived.Test.YtkehoabgejdpgaaSvQueueP
namespace Go.Bv
set_option linter.unusedSimpArgs false
set_option linter.unusedVariables false
set_option maxHeartbeats 4000000
open Go Go.Proofs

def smQ (q : Queue) : Prop := q.list.length ≤ 2 ^ 30 ∧ ∀ t ∈ q.list, smTxn t
theorem newQ_walk (most : Int) : ACalls Try.prog Nm.queue_New [i64 most] [] (if 0 ≤ most ∧ most ≤ 16 then .tup [queueA ⟨most, []⟩, i64 0] else .tup [queueA ⟨0, []⟩, i64 1]) [] := by
  refine ACalls_of tab (dr_snd tab mixed) Nm.queue_New_h rfl (by kernel_rfl) (Nat.le_of_ble_eq_true rfl) rfl ?_
  by_cases h : 0 ≤ most ∧ most ≤ 16
  · rw [if_pos h]
    refine ND.no (by omega) ?_
    refine ND.no (by omega) ?_
    exact NRet.mk [] rfl ⟨by repeat (first | exact LeA.refl _ | exact LeA.nils _ | refine LeA.agg ?_ | refine LeA.tup ?_ | exact LeAs.nil | refine LeAs.cons ?_ ?_), rfl⟩
  · rw [if_neg h]
    refine NB.dec (fun hk1 => ?_) (fun hk1 => ?_)
    · exact NRet.mk [] rfl ⟨by repeat (first | exact LeA.refl _ | exact LeA.nils _ | refine LeA.agg ?_ | refine LeA.tup ?_ | exact LeAs.nil | refine LeAs.cons ?_ ?_), rfl⟩
    refine ND.yes (by omega) ?_
    exact NRet.mk [] rfl ⟨by repeat (first | exact LeA.refl _ | exact LeA.nils _ | refine LeA.agg ?_ | refine LeA.tup ?_ | exact LeAs.nil | refine LeAs.cons ?_ ?_), rfl⟩
theorem lastQ_walk (q : Queue) (hq : smQ q) : ACalls Try.prog Nm.queue_Last [queueA q] [] (match q.list.getLast? with | some t => .tup [txnA t, .bool true] | none => .tup [txnA ⟨0, 0, [], []⟩, .bool false]) [] := by
  refine ACalls_of tab (dr_snd tab mixed) Nm.queue_Last_h rfl (by kernel_rfl) (Nat.le_of_ble_eq_true rfl) rfl ?_
  obtain ⟨hl, hx⟩ := hq
  by_cases h : 0 < q.list.length
  · have e : q.list.getLast? = some q.list[q.list.length - 1] := by
      rw [List.getLast?_eq_getElem?, List.getElem?_eq_getElem (by omega)]
    have ek : Int.toNat ((q.list.length : Int) - 1) = q.list.length - 1 := by omega
    rw [e]
    have ei : q.list[((q.list.length : Int) - 1).toNat] = q.list[q.list.length - 1] := by simp only [ek]
    have h1 := txnOnlyAll_walk q.list[((q.list.length : Int) - 1).toNat] (hx _ (List.getElem_mem (by omega)))
    have h1 := h1.res (congrArg txnA ei)
    refine ND.no (by (simp only [List.length_map, List.length_append, List.length_replicate, List.length_cons, List.length_nil, List.length_take, List.length_drop]; omega)) ?_
    refine NW.i64 (by (simp only [List.length_map, List.length_append, List.length_replicate, List.length_cons, List.length_nil, List.length_take, List.length_drop]; omega)) (by (simp only [List.length_map, List.length_append, List.length_replicate, List.length_cons, List.length_nil, List.length_take, List.length_drop]; omega)) ?_
    refine NP.mk (by (simp only [List.length_map, List.length_append, List.length_replicate, List.length_cons, List.length_nil, List.length_take, List.length_drop]; omega)) ?_
    refine NG.map (by (simp only [List.length_map, List.length_append, List.length_replicate, List.length_cons, List.length_nil, List.length_take, List.length_drop]; omega)) ?_
    refine NCall.eq (by simp only [List.length_map] <;> exact rfl) ?_
    refine NCall.call (h1) rfl rfl ?_
    exact NRet.mk [] rfl ⟨.refl _, rfl⟩
  · have e : q.list = [] := List.length_eq_zero_iff.1 (by omega)
    rw [e]
    refine ND.yes (by (simp only [List.length_map, List.length_append, List.length_replicate, List.length_cons, List.length_nil, List.length_take, List.length_drop]; omega)) ?_
    exact NRet.mk [] rfl ⟨by repeat (first | exact LeA.refl _ | exact LeA.nils _ | refine LeA.agg ?_ | refine LeA.tup ?_ | exact LeAs.nil | refine LeAs.cons ?_ ?_), rfl⟩
theorem heardQ_own (q : Queue) (v : List Int) (hq : smQ q) (hv : v.length ≤ 2 ^ 40) : ACalls Try.prog Nm.queue_Heard [queueA q, ints v] [] (.agg [i64 q.most, .own 0 0 (leftB q.list v).length]) [.row .vrow (.agg 4) ((leftB q.list v).map txnA)] := by
  refine ACalls_of tab (dr_snd tab mixed) Nm.queue_Heard_h rfl (by kernel_rfl) (Nat.le_of_ble_eq_true rfl) rfl ?_
  obtain ⟨hl, hx⟩ := hq
  skip
  refine NLoop.bm (.cons (sh := .agg 4) 2 1 rfl rfl (by decide) (.nil _)) [] [1, 4, 5, 12, 13, 14] (fun m vs H => ∃ i, i ≤ q.list.length ∧ m = q.list.length - i ∧
    H = [.row .box (.agg 2) [.agg [i64 0, .nils]], .row .box (.agg 2) [.agg [i64 q.most, .own 2 0 ((leftB (q.list.take i) v).map txnA).length]], .row .vrow (.agg 4) ((leftB (q.list.take i) v).map txnA)] ∧
    vs = [ints v, .ptr 0 0 0, .ptr 1 0 0, txnsA q.list, i64 q.list.length, i64 i]) rfl ?_ ?_
  · exact Canon.mk [1, 2, 3] rfl ⟨q.list.length, 0, Nat.zero_le _, rfl, rfl, by simp [txnsA, ints, i64]⟩
  · rintro m vs H ⟨i, hi, rfl, rfl, rfl⟩
    by_cases hil : i < q.list.length
    · have hs := leftB_snoc (q.list.take i) q.list[i] v
      rw [← List.take_succ_eq_append_getElem hil] at hs
      have hle := leftB_len (q.list.take i) v
      rw [List.length_take] at hle
      have h1 := dot_walk q.list[i]
      have h2 := vecHas_walk v q.list[i].node q.list[i].seq 0 hv
      have h3 := txnOnlyAll_walk q.list[i] (hx _ (List.getElem_mem hil))
      have h2 : ACalls Try.prog Nm.vec_Has [ints v, .agg [i64 q.list[i].node, i64 q.list[i].seq, i64 0]] [] (.bool (hasT v q.list[i])) [] := h2
      cases hh : hasT v q.list[i] with
      | true =>
        rw [hh] at h2 hs
        rw [if_pos rfl, List.append_nil] at hs
        refine ND.yes (by omega) ?_
        refine NP.mk (by omega) ?_
        refine NG.mapN (by omega) ?_
        refine NCall.call (h1) rfl rfl ?_
        refine NCall.call (h2) rfl rfl ?_
        refine NW.i64 (by omega) (by omega) ?_
        exact Canon.mk [0, 1, 2] rfl ⟨q.list.length - (i + 1), by omega, i + 1, by omega, rfl, by rw [hs]; rfl, rfl⟩
      | false =>
        rw [hh] at h2 hs
        rw [if_neg (by simp)] at hs
        refine ND.yes (by omega) ?_
        refine NP.mk (by omega) ?_
        refine NG.mapN (by omega) ?_
        refine NCall.call (h1) rfl rfl ?_
        refine NCall.call (h2) rfl rfl ?_
        refine NP.mk (by kernel_rfl) ?_
        apply NDr.rd [1]
        · intro fH TH
          exact ⟨rfl, rfl⟩
        apply NDr.rd [1]
        · intro fH TH
          exact ⟨rfl, rfl⟩
        apply NDr.rd [3]
        · intro fH TH
          exact ⟨rfl, rfl⟩
        apply NDr.pure
        · exact ⟨rfl, rfl⟩
        apply NDr.pure
        · refine NCall.call (h3) rfl rfl ?_
          exact ⟨rfl, rfl⟩
        apply NDr.pure
        · exact ⟨rfl, rfl⟩
        apply NDr.efw [2]
        · refine NFz.own ?_
          refine NApp.endA rfl (by simp; omega) ?_
          exact ⟨rfl, rfl⟩
        · repeat (first | exact True.intro | refine ⟨by first | exact rfl | exact True.intro, ?_⟩)
        apply NDr.rd [1]
        · intro fH TH
          exact ⟨rfl, rfl⟩
        apply NDr.efw [1]
        · exact ⟨rfl, rfl⟩
        · repeat (first | exact True.intro | refine ⟨by first | exact rfl | exact True.intro, ?_⟩)
        refine NP.mk (by kernel_rfl) ?_
        refine NW.i64 (by omega) (by omega) ?_
        exact Canon.mk [0, 1, 4] rfl ⟨q.list.length - (i + 1), by omega, i + 1, by omega, rfl, by rw [hs, List.map_append]; rfl, rfl⟩
    · rw [List.take_of_length_le (by omega)]
      refine ND.no (by omega) ?_
      exact NRet.mk [2] rfl ⟨by rw [List.length_map]; exact .refl _, rfl⟩
theorem heardQ_list (q : Queue) (v : List Int) (hq : smQ q) (hv : v.length ≤ 2 ^ 40) : ACalls Try.prog Nm.queue_Heard [queueA q, ints v] [] (queueA (heardQ q v)) [] :=
  (heardQ_own q v hq hv).drop (.val (.agg (.cons (.same _) (.cons (.own trivial rfl (by simp) (by simp) (by rw [List.drop_zero, List.take_of_length_le (by simp)]; rfl)) .nil))) rfl (fun _ => by simp) (fun _ => by simp [queueA]))
theorem heard20_walk (q : Queue) (v : List Int) (hq : smQ q) (hv : v.length ≤ 2 ^ 40) : ACalls Try.prog Nm.ref20_Heard [queueA q, ints v] [] (queueA (heardQ q v)) [] := by
  refine ACalls_of tab (dr_snd tab mixed) Nm.ref20_Heard_h rfl (by kernel_rfl) (Nat.le_of_ble_eq_true rfl) rfl ?_
  obtain ⟨hl, hx⟩ := hq
  skip
  refine NLoop.bm (.cons (sh := .agg 4) 2 1 rfl rfl (by decide) (.nil _)) [] [1, 2, 4, 5, 6] (fun m vs H => ∃ i, i ≤ q.list.length ∧ m = q.list.length - i ∧
    H = [.row .box (.agg 2) [queueA q], .row .box (.agg 2) [.agg [i64 0, .nils]], .row .box (.agg 2) [.agg [i64 q.most, .own 3 0 ((leftB (q.list.take i) v).map txnA).length]], .row .vrow (.agg 4) ((leftB (q.list.take i) v).map txnA)] ∧
    vs = [ints v, .ptr 0 0 0, .ptr 1 0 0, .ptr 2 0 0, i64 i]) rfl ?_ ?_
  · exact Canon.mk [0, 1, 2, 3] rfl ⟨q.list.length, 0, Nat.zero_le _, rfl, rfl, rfl⟩
  · rintro m vs H ⟨i, hi, rfl, rfl, rfl⟩
    by_cases hil : i < q.list.length
    · have hs := leftB_snoc (q.list.take i) q.list[i] v
      rw [← List.take_succ_eq_append_getElem hil] at hs
      have hle := leftB_len (q.list.take i) v
      rw [List.length_take] at hle
      have h1 := at7_walk v q.list[i].node hv
      cases hh : hasT v q.list[i] with
      | true =>
        have hh' := (hasT_iff _ _).1 hh
        rw [hh] at hs
        rw [if_pos rfl, List.append_nil] at hs
        refine ND.yes (by (simp only [List.length_map, List.length_append, List.length_replicate, List.length_cons, List.length_nil, List.length_take, List.length_drop]; omega)) ?_
        refine NP.mk (by omega) ?_
        refine NG.mapN (by omega) ?_
        refine NP.mk (by kernel_rfl) ?_
        apply NDr.rd [4]
        · intro fH TH
          exact ⟨rfl, rfl⟩
        apply NDr.rd [4]
        · intro fH TH
          exact ⟨rfl, rfl⟩
        apply NDr.pure
        · refine ND.no (by omega) ?_
          exact ⟨rfl, rfl⟩
        apply NDr.pure
        · exact ⟨rfl, rfl⟩
        apply NDr.rd [4]
        · intro fH TH
          exact ⟨rfl, rfl⟩
        apply NDr.rd [4]
        · intro fH TH
          exact ⟨rfl, rfl⟩
        apply NDr.pure
        · exact ⟨rfl, rfl⟩
        apply NDr.rd [4]
        · intro fH TH
          exact ⟨rfl, rfl⟩
        apply NDr.rd [4]
        · intro fH TH
          exact ⟨rfl, rfl⟩
        apply NDr.pure
        · refine NCall.call (h1) rfl rfl ?_
          exact ⟨rfl, rfl⟩
        apply NDr.pure
        · refine ND.no (by omega) ?_
          exact ⟨rfl, rfl⟩
        apply NDr.pure
        · exact ⟨rfl, rfl⟩
        refine NP.mk (by kernel_rfl) ?_
        refine NW.i64 (by omega) (by omega) ?_
        exact Canon.mk [0, 1, 2, 3] rfl ⟨q.list.length - (i + 1), by omega, i + 1, by omega, rfl, by rw [hs]; rfl, rfl⟩
      | false =>
        have hh' : ¬ (1 ≤ q.list[i].seq ∧ q.list[i].seq ≤ vatI v q.list[i].node) := fun h => by rw [(hasT_iff _ _).2 h] at hh; cases hh
        rw [hh] at hs
        rw [if_neg (by simp)] at hs
        by_cases h1s : q.list[i].seq < 1
        · refine ND.yes (by (simp only [List.length_map, List.length_append, List.length_replicate, List.length_cons, List.length_nil, List.length_take, List.length_drop]; omega)) ?_
          refine NP.mk (by omega) ?_
          refine NG.mapN (by omega) ?_
          refine NP.mk (by kernel_rfl) ?_
          apply NDr.rd [4]
          · intro fH TH
            exact ⟨rfl, rfl⟩
          apply NDr.rd [4]
          · intro fH TH
            exact ⟨rfl, rfl⟩
          apply NDr.pure
          · refine ND.yes (by omega) ?_
            exact ⟨rfl, rfl⟩
          apply NDr.pure
          · exact ⟨rfl, rfl⟩
          apply NDr.pure
          · exact ⟨rfl, rfl⟩
          refine NP.mk (by kernel_rfl) ?_
          refine NFz.own ?_
          refine NApp.endA rfl (by simp; omega) ?_
          refine NW.i64 (by omega) (by omega) ?_
          exact Canon.mk [0, 1, 2, 5] rfl ⟨q.list.length - (i + 1), by omega, i + 1, by omega, rfl, by rw [hs, List.map_append]; rfl, rfl⟩
        · refine ND.yes (by (simp only [List.length_map, List.length_append, List.length_replicate, List.length_cons, List.length_nil, List.length_take, List.length_drop]; omega)) ?_
          refine NP.mk (by omega) ?_
          refine NG.mapN (by omega) ?_
          refine NP.mk (by kernel_rfl) ?_
          apply NDr.rd [4]
          · intro fH TH
            exact ⟨rfl, rfl⟩
          apply NDr.rd [4]
          · intro fH TH
            exact ⟨rfl, rfl⟩
          apply NDr.pure
          · refine ND.no (by omega) ?_
            exact ⟨rfl, rfl⟩
          apply NDr.pure
          · exact ⟨rfl, rfl⟩
          apply NDr.rd [4]
          · intro fH TH
            exact ⟨rfl, rfl⟩
          apply NDr.rd [4]
          · intro fH TH
            exact ⟨rfl, rfl⟩
          apply NDr.pure
          · exact ⟨rfl, rfl⟩
          apply NDr.rd [4]
          · intro fH TH
            exact ⟨rfl, rfl⟩
          apply NDr.rd [4]
          · intro fH TH
            exact ⟨rfl, rfl⟩
          apply NDr.pure
          · refine NCall.call (h1) rfl rfl ?_
            exact ⟨rfl, rfl⟩
          apply NDr.pure
          · refine ND.yes (by omega) ?_
            exact ⟨rfl, rfl⟩
          apply NDr.pure
          · exact ⟨rfl, rfl⟩
          refine NP.mk (by kernel_rfl) ?_
          refine NFz.own ?_
          refine NApp.endA rfl (by simp; omega) ?_
          refine NW.i64 (by omega) (by omega) ?_
          exact Canon.mk [0, 1, 2, 5] rfl ⟨q.list.length - (i + 1), by omega, i + 1, by omega, rfl, by rw [hs, List.map_append]; rfl, rfl⟩
    · rw [List.take_of_length_le (by omega)]
      refine ND.no (by (simp only [List.length_map, List.length_append, List.length_replicate, List.length_cons, List.length_nil, List.length_take, List.length_drop]; omega)) ?_
      exact NRet.mk [] rfl (NFrz.mk ((leftB q.list v).map txnA) (by simp) (by rw [List.drop_zero, List.take_of_length_le (by simp)]) ⟨.refl _, rfl⟩)
theorem same20_walk (a b : Queue) (ha : smQ a) : ACalls Try.prog Nm.ref20_Same [queueA a, queueA b] [] (.bool (decide (a = b))) [] := by
  refine ACalls_of tab (dr_snd tab mixed) Nm.ref20_Same_h rfl (by kernel_rfl) (Nat.le_of_ble_eq_true rfl) rfl ?_
  have h1 := sameAll_walk a.list b.list (by have := ha.1; omega) ha.2
  rw [show decide (a = b) = (decide (a.most = b.most) && decide (a.list = b.list)) by rw [Bool.eq_iff_iff]; simp [Queue.ext_iff]]
  refine NB.dec (fun hk1 => ?_) (fun hk1 => ?_)
  · refine NCall.call (h1) rfl rfl ?_
    refine NRet.boolE ?_ (NRet.mk [] rfl ⟨.refl _, rfl⟩)
    (simp [*]; done)
  refine NRet.boolE (b := false) ?_ (NRet.mk [] rfl ⟨.refl _, rfl⟩)
  (simp [*]; done)
theorem pushQ_bad {q : Queue} {t : Txn} {k : Nat} (h : pushC q t = k) (hk : k ≠ 0) : pushQ q t = ⟨0, []⟩ := by
  unfold pushQ; rw [h, if_neg hk]
theorem pushQ_good {q : Queue} {t : Txn} (h : pushC q t = 0) : pushQ q t = ⟨q.most, q.list ++ [t]⟩ := by
  unfold pushQ; rw [if_pos h]
theorem pushC_form {q : Queue} {t : Txn} (hf : formed t = false) : pushC q t = 2 := by
  unfold pushC; rw [hf]; rfl
theorem pushC_gap {q : Queue} {t : Txn} (hf : formed t = true) (hg : gapB q.list t = true) : pushC q t = 9 := by
  unfold pushC; rw [if_pos hf, if_pos hg]
theorem pushC_ok {q : Queue} {t : Txn} (hf : formed t = true) (hg : gapB q.list t = false) (hm : (q.list.length : Int) < q.most) : pushC q t = 0 := by
  unfold pushC; rw [if_pos hf, if_neg (by simp [hg]), if_pos hm]
theorem pushC_full {q : Queue} {t : Txn} (hf : formed t = true) (hg : gapB q.list t = false) (hm : ¬ (q.list.length : Int) < q.most) : pushC q t = 6 := by
  unfold pushC; rw [if_pos hf, if_neg (by simp [hg]), if_neg hm]
theorem gap_none {l : List Txn} {t : Txn} (h : l.getLast? = none) : gapB l t = false := by unfold gapB; rw [h]
theorem gap_some {l : List Txn} {t a : Txn} (h : l.getLast? = some a) : gapB l t = decide (a.node ≠ t.node ∨ a.seq ≠ t.seq - 1) := by unfold gapB; rw [h]
theorem push20_walk (q : Queue) (t : Txn) (hq : smQ q) (ht : smTxn t) : ACalls Try.prog Nm.ref20_Push [queueA q, txnA t] [] (.tup [queueA (pushQ q t), i64 (pushC q t)]) [] := by
  refine ACalls_of tab (dr_snd tab mixed) Nm.ref20_Push_h rfl (by kernel_rfl) (Nat.le_of_ble_eq_true rfl) rfl ?_
  obtain ⟨hl, hx⟩ := hq
  have hts := ht.1
  obtain ⟨hts1, hts2⟩ := hts
  have h1 := formed13_walk t ht
  have h2 := copy13_own q.list hl hx
  cases hf : formed t with
  | false =>
    rw [hf] at h1
    have ec := pushC_form (q := q) hf
    rw [ec, pushQ_bad ec (by simp)]
    refine NCall.call (h1) rfl rfl ?_
    exact NRet.mk [] rfl ⟨by repeat (first | exact LeA.refl _ | exact LeA.nils _ | refine LeA.agg ?_ | refine LeA.tup ?_ | exact LeAs.nil | refine LeAs.cons ?_ ?_), rfl⟩
  | true =>
    rw [hf] at h1
    have hs1 := (formed_okN hf).2
    by_cases h0 : 0 < q.list.length
    · have e : q.list.getLast? = some q.list[q.list.length - 1] := by
        rw [List.getLast?_eq_getElem?, List.getElem?_eq_getElem (by omega)]
      have hil : (((q.list.map txnA).length : Int) - 1).toNat < q.list.length := by rw [List.length_map]; omega
      have ei : q.list[(((q.list.map txnA).length : Int) - 1).toNat] = q.list[q.list.length - 1] := by
        congr 1
        rw [List.length_map]; omega
      have hgs := gap_some (t := t) e
      by_cases hg : q.list[q.list.length - 1].node ≠ t.node ∨ q.list[q.list.length - 1].seq ≠ t.seq - 1
      · rw [decide_eq_true hg] at hgs
        have ec := pushC_gap hf hgs
        rw [ec, pushQ_bad ec (by simp)]
        rw [← ei] at hg
        by_cases hg1 : q.list[(((q.list.map txnA).length : Int) - 1).toNat].node = t.node
        · refine NCall.call (h1) rfl rfl ?_
          refine ND.yes (by (simp only [List.length_map, List.length_append, List.length_replicate, List.length_cons, List.length_nil, List.length_take, List.length_drop]; omega)) ?_
          refine NW.i64 (by omega) (by omega) ?_
          refine NP.mk (by (simp only [List.length_map, List.length_append, List.length_replicate, List.length_cons, List.length_nil, List.length_take, List.length_drop]; omega)) ?_
          refine NG.map (by omega) ?_
          refine ND.yes (by omega) ?_
          refine NW.i64 (by omega) (by omega) ?_
          refine ND.no (by omega) ?_
          exact NRet.mk [] rfl ⟨by repeat (first | exact LeA.refl _ | exact LeA.nils _ | refine LeA.agg ?_ | refine LeA.tup ?_ | exact LeAs.nil | refine LeAs.cons ?_ ?_), rfl⟩
        · refine NCall.call (h1) rfl rfl ?_
          refine ND.yes (by (simp only [List.length_map, List.length_append, List.length_replicate, List.length_cons, List.length_nil, List.length_take, List.length_drop]; omega)) ?_
          refine NW.i64 (by omega) (by omega) ?_
          refine NP.mk (by (simp only [List.length_map, List.length_append, List.length_replicate, List.length_cons, List.length_nil, List.length_take, List.length_drop]; omega)) ?_
          refine NG.map (by omega) ?_
          refine ND.no (by omega) ?_
          exact NRet.mk [] rfl ⟨by repeat (first | exact LeA.refl _ | exact LeA.nils _ | refine LeA.agg ?_ | refine LeA.tup ?_ | exact LeAs.nil | refine LeAs.cons ?_ ?_), rfl⟩
      · rw [decide_eq_false hg] at hgs
        rw [← ei] at hg
        by_cases hm : (q.list.length : Int) < q.most
        · have ec := pushC_ok hf hgs hm
          rw [ec, pushQ_good ec]
          refine NCall.call (h1) rfl rfl ?_
          refine ND.yes (by (simp only [List.length_map, List.length_append, List.length_replicate, List.length_cons, List.length_nil, List.length_take, List.length_drop]; omega)) ?_
          refine NW.i64 (by omega) (by omega) ?_
          refine NP.mk (by (simp only [List.length_map, List.length_append, List.length_replicate, List.length_cons, List.length_nil, List.length_take, List.length_drop]; omega)) ?_
          refine NG.map (by omega) ?_
          refine ND.yes (by omega) ?_
          refine NW.i64 (by omega) (by omega) ?_
          refine ND.yes (by omega) ?_
          refine ND.no (by omega) ?_
          refine NP.mk (by kernel_rfl) ?_
          apply NDr.rd [0]
          · intro fH TH
            exact ⟨rfl, rfl⟩
          apply NDr.rd [0]
          · intro fH TH
            exact ⟨rfl, rfl⟩
          apply NDr.rd [0]
          · intro fH TH
            exact ⟨rfl, rfl⟩
          apply NDr.rd [0]
          · intro fH TH
            exact ⟨rfl, rfl⟩
          apply NDr.efw []
          · refine NCall.atA (ACalls.frame (h2) rfl _) ?_
            exact ⟨rfl, rfl⟩
          · repeat (first | exact True.intro | refine ⟨by first | exact rfl | exact True.intro, ?_⟩)
          apply NDr.rd [1]
          · intro fH TH
            exact ⟨rfl, rfl⟩
          apply NDr.pure
          · exact ⟨rfl, rfl⟩
          apply NDr.efw [4]
          · refine NFz.own ?_
            refine NApp.endA (by simp) (by simp; omega) ?_
            exact ⟨rfl, rfl⟩
          · repeat (first | exact True.intro | refine ⟨by first | exact rfl | exact True.intro, ?_⟩)
          apply NDr.any
          · intro H'
            exact ⟨rfl, rfl⟩
          apply NDr.efw [2]
          · exact ⟨rfl, rfl⟩
          · repeat (first | exact True.intro | refine ⟨by first | exact rfl | exact True.intro, ?_⟩)
          apply NDr.pure
          · exact ⟨rfl, rfl⟩
          refine NP.mk (by kernel_rfl) ?_
          exact NRet.mk [] rfl (NFrz.mk ((q.list ++ [t]).map txnA) (by simp) (by rw [List.drop_zero, List.take_of_length_le (by simp), List.map_append]; rfl) ⟨.refl _, rfl⟩)
        · have ec := pushC_full hf hgs hm
          rw [ec, pushQ_bad ec (by simp)]
          refine NCall.call (h1) rfl rfl ?_
          refine ND.yes (by (simp only [List.length_map, List.length_append, List.length_replicate, List.length_cons, List.length_nil, List.length_take, List.length_drop]; omega)) ?_
          refine NW.i64 (by omega) (by omega) ?_
          refine NP.mk (by (simp only [List.length_map, List.length_append, List.length_replicate, List.length_cons, List.length_nil, List.length_take, List.length_drop]; omega)) ?_
          refine NG.map (by omega) ?_
          refine ND.yes (by omega) ?_
          refine NW.i64 (by omega) (by omega) ?_
          refine ND.yes (by omega) ?_
          refine ND.yes (by (simp only [List.length_map, List.length_append, List.length_replicate, List.length_cons, List.length_nil, List.length_take, List.length_drop]; omega)) ?_
          exact NRet.mk [] rfl ⟨by repeat (first | exact LeA.refl _ | exact LeA.nils _ | refine LeA.agg ?_ | refine LeA.tup ?_ | exact LeAs.nil | refine LeAs.cons ?_ ?_), rfl⟩
    · have e : q.list = [] := List.length_eq_zero_iff.1 (by omega)
      have hgs : gapB q.list t = false := gap_none (by rw [e]; rfl)
      by_cases hm : (q.list.length : Int) < q.most
      · have ec := pushC_ok hf hgs hm
        rw [ec, pushQ_good ec]
        refine NCall.call (h1) rfl rfl ?_
        refine ND.no (by (simp only [List.length_map, List.length_append, List.length_replicate, List.length_cons, List.length_nil, List.length_take, List.length_drop]; omega)) ?_
        refine ND.no (by (simp only [List.length_map, List.length_append, List.length_replicate, List.length_cons, List.length_nil, List.length_take, List.length_drop]; omega)) ?_
        refine NP.mk (by kernel_rfl) ?_
        apply NDr.rd [0]
        · intro fH TH
          exact ⟨rfl, rfl⟩
        apply NDr.rd [0]
        · intro fH TH
          exact ⟨rfl, rfl⟩
        apply NDr.rd [0]
        · intro fH TH
          exact ⟨rfl, rfl⟩
        apply NDr.rd [0]
        · intro fH TH
          exact ⟨rfl, rfl⟩
        apply NDr.efw []
        · refine NCall.atA (ACalls.frame (h2) rfl _) ?_
          exact ⟨rfl, rfl⟩
        · repeat (first | exact True.intro | refine ⟨by first | exact rfl | exact True.intro, ?_⟩)
        apply NDr.rd [1]
        · intro fH TH
          exact ⟨rfl, rfl⟩
        apply NDr.pure
        · exact ⟨rfl, rfl⟩
        apply NDr.efw [3]
        · refine NFz.own ?_
          refine NApp.endA (by simp) (by simp; omega) ?_
          exact ⟨rfl, rfl⟩
        · repeat (first | exact True.intro | refine ⟨by first | exact rfl | exact True.intro, ?_⟩)
        apply NDr.any
        · intro H'
          exact ⟨rfl, rfl⟩
        apply NDr.efw [2]
        · exact ⟨rfl, rfl⟩
        · repeat (first | exact True.intro | refine ⟨by first | exact rfl | exact True.intro, ?_⟩)
        apply NDr.pure
        · exact ⟨rfl, rfl⟩
        refine NP.mk (by kernel_rfl) ?_
        exact NRet.mk [] rfl (NFrz.mk ((q.list ++ [t]).map txnA) (by simp) (by rw [List.drop_zero, List.take_of_length_le (by simp), List.map_append]; rfl) ⟨.refl _, rfl⟩)
      · have ec := pushC_full hf hgs hm
        rw [ec, pushQ_bad ec (by simp)]
        refine NCall.call (h1) rfl rfl ?_
        refine ND.no (by (simp only [List.length_map, List.length_append, List.length_replicate, List.length_cons, List.length_nil, List.length_take, List.length_drop]; omega)) ?_
        refine ND.yes (by omega) ?_
        exact NRet.mk [] rfl ⟨by repeat (first | exact LeA.refl _ | exact LeA.nils _ | refine LeA.agg ?_ | refine LeA.tup ?_ | exact LeAs.nil | refine LeAs.cons ?_ ?_), rfl⟩
theorem push_walk (q : Queue) (t : Txn) (hq : smQ q) (ht : smTxn t) : ACalls Try.prog Nm.queue_Push [queueA q, txnA t] [] (.tup [queueA (pushQ q t), i64 (pushC q t)]) [] := by
  refine ACalls_of tab (dr_snd tab mixed) Nm.queue_Push_h rfl (by kernel_rfl) (Nat.le_of_ble_eq_true rfl) rfl ?_
  have hts := ht.1
  obtain ⟨hts1, hts2⟩ := hts
  have h1 := formed_walk t ht
  have h2 := lastQ_walk q hq
  have h3 := heardQ_own q [] hq (by simp)
  rw [leftB_nil] at h3
  have h3 := h3.args (args := [queueA q, .nils]) (.cons (.refl _) (.cons (.nils _) .nil))
  have h4 := txnOnlyAll_walk t ht
  have hl := hq.1
  cases hf : formed t with
  | false =>
    rw [hf] at h1
    have ec := pushC_form (q := q) hf
    rw [ec, pushQ_bad ec (by simp)]
    cases e : q.list.getLast? with
    | none =>
      rw [e] at h2
      dsimp only at h2
      refine NCall.call (h2) rfl rfl ?_
      refine NCall.call (h1) rfl rfl ?_
      exact NRet.mk [] rfl ⟨by repeat (first | exact LeA.refl _ | exact LeA.nils _ | refine LeA.agg ?_ | refine LeA.tup ?_ | exact LeAs.nil | refine LeAs.cons ?_ ?_), rfl⟩
    | some a =>
      rw [e] at h2
      dsimp only at h2
      refine NCall.call (h2) rfl rfl ?_
      refine NCall.call (h1) rfl rfl ?_
      exact NRet.mk [] rfl ⟨by repeat (first | exact LeA.refl _ | exact LeA.nils _ | refine LeA.agg ?_ | refine LeA.tup ?_ | exact LeAs.nil | refine LeAs.cons ?_ ?_), rfl⟩
  | true =>
    rw [hf] at h1
    have hs1 := (formed_okN hf).2
    cases e : q.list.getLast? with
    | none =>
      rw [e] at h2
      dsimp only at h2
      have hgs := gap_none (t := t) e
      by_cases hm : (q.list.length : Int) < q.most
      · have ec := pushC_ok hf hgs hm
        rw [ec, pushQ_good ec]
        refine NCall.call (h2) rfl rfl ?_
        refine NCall.call (h1) rfl rfl ?_
        refine ND.no (by (simp only [List.length_map, List.length_append, List.length_replicate, List.length_cons, List.length_nil, List.length_take, List.length_drop]; omega)) ?_
        refine NCall.atA (ACalls.frame (h3) rfl _) ?_
        refine NP.mk (by kernel_rfl) ?_
        apply NDr.rd [5]
        · intro fH TH
          exact ⟨rfl, rfl⟩
        apply NDr.rd [5]
        · intro fH TH
          exact ⟨rfl, rfl⟩
        apply NDr.rd [1]
        · intro fH TH
          exact ⟨rfl, rfl⟩
        apply NDr.pure
        · exact ⟨rfl, rfl⟩
        apply NDr.pure
        · refine NCall.call (h4) rfl rfl ?_
          exact ⟨rfl, rfl⟩
        apply NDr.pure
        · exact ⟨rfl, rfl⟩
        apply NDr.efw [4]
        · refine NFz.own ?_
          refine NApp.endA (by simp) (by simp; omega) ?_
          exact ⟨rfl, rfl⟩
        · repeat (first | exact True.intro | refine ⟨by first | exact rfl | exact True.intro, ?_⟩)
        apply NDr.rd [5]
        · intro fH TH
          exact ⟨rfl, rfl⟩
        apply NDr.efw [5]
        · exact ⟨rfl, rfl⟩
        · repeat (first | exact True.intro | refine ⟨by first | exact rfl | exact True.intro, ?_⟩)
        refine NP.mk (by kernel_rfl) ?_
        exact NRet.mk [] rfl (NFrz.mk ((q.list ++ [t]).map txnA) (by simp) (by rw [List.drop_zero, List.take_of_length_le (by simp), List.map_append]; rfl) ⟨.refl _, rfl⟩)
      · have ec := pushC_full hf hgs hm
        rw [ec, pushQ_bad ec (by simp)]
        refine NCall.call (h2) rfl rfl ?_
        refine NCall.call (h1) rfl rfl ?_
        refine ND.yes (by (simp only [List.length_map, List.length_append, List.length_replicate, List.length_cons, List.length_nil, List.length_take, List.length_drop]; omega)) ?_
        exact NRet.mk [] rfl ⟨by repeat (first | exact LeA.refl _ | exact LeA.nils _ | refine LeA.agg ?_ | refine LeA.tup ?_ | exact LeAs.nil | refine LeAs.cons ?_ ?_), rfl⟩
    | some a =>
      rw [e] at h2
      dsimp only at h2
      have hgs := gap_some (t := t) e
      by_cases hg : a.node ≠ t.node ∨ a.seq ≠ t.seq - 1
      · rw [decide_eq_true hg] at hgs
        have ec := pushC_gap hf hgs
        rw [ec, pushQ_bad ec (by simp)]
        by_cases hg1 : a.node = t.node
        · refine NCall.call (h2) rfl rfl ?_
          refine NCall.call (h1) rfl rfl ?_
          refine ND.yes (by omega) ?_
          refine NW.i64 (by omega) (by omega) ?_
          refine ND.no (by omega) ?_
          exact NRet.mk [] rfl ⟨by repeat (first | exact LeA.refl _ | exact LeA.nils _ | refine LeA.agg ?_ | refine LeA.tup ?_ | exact LeAs.nil | refine LeAs.cons ?_ ?_), rfl⟩
        · refine NCall.call (h2) rfl rfl ?_
          refine NCall.call (h1) rfl rfl ?_
          refine ND.no (by omega) ?_
          exact NRet.mk [] rfl ⟨by repeat (first | exact LeA.refl _ | exact LeA.nils _ | refine LeA.agg ?_ | refine LeA.tup ?_ | exact LeAs.nil | refine LeAs.cons ?_ ?_), rfl⟩
      · rw [decide_eq_false hg] at hgs
        by_cases hm : (q.list.length : Int) < q.most
        · have ec := pushC_ok hf hgs hm
          rw [ec, pushQ_good ec]
          refine NCall.call (h2) rfl rfl ?_
          refine NCall.call (h1) rfl rfl ?_
          refine ND.yes (by omega) ?_
          refine NW.i64 (by omega) (by omega) ?_
          refine ND.yes (by omega) ?_
          refine ND.no (by (simp only [List.length_map, List.length_append, List.length_replicate, List.length_cons, List.length_nil, List.length_take, List.length_drop]; omega)) ?_
          refine NCall.atA (ACalls.frame (h3) rfl _) ?_
          refine NP.mk (by kernel_rfl) ?_
          apply NDr.rd [5]
          · intro fH TH
            exact ⟨rfl, rfl⟩
          apply NDr.rd [5]
          · intro fH TH
            exact ⟨rfl, rfl⟩
          apply NDr.rd [1]
          · intro fH TH
            exact ⟨rfl, rfl⟩
          apply NDr.pure
          · exact ⟨rfl, rfl⟩
          apply NDr.pure
          · refine NCall.call (h4) rfl rfl ?_
            exact ⟨rfl, rfl⟩
          apply NDr.pure
          · exact ⟨rfl, rfl⟩
          apply NDr.efw [4]
          · refine NFz.own ?_
            refine NApp.endA (by simp) (by simp; omega) ?_
            exact ⟨rfl, rfl⟩
          · repeat (first | exact True.intro | refine ⟨by first | exact rfl | exact True.intro, ?_⟩)
          apply NDr.rd [5]
          · intro fH TH
            exact ⟨rfl, rfl⟩
          apply NDr.efw [5]
          · exact ⟨rfl, rfl⟩
          · repeat (first | exact True.intro | refine ⟨by first | exact rfl | exact True.intro, ?_⟩)
          refine NP.mk (by kernel_rfl) ?_
          exact NRet.mk [] rfl (NFrz.mk ((q.list ++ [t]).map txnA) (by simp) (by rw [List.drop_zero, List.take_of_length_le (by simp), List.map_append]; rfl) ⟨.refl _, rfl⟩)
        · have ec := pushC_full hf hgs hm
          rw [ec, pushQ_bad ec (by simp)]
          refine NCall.call (h2) rfl rfl ?_
          refine NCall.call (h1) rfl rfl ?_
          refine ND.yes (by omega) ?_
          refine NW.i64 (by omega) (by omega) ?_
          refine ND.yes (by omega) ?_
          refine ND.yes (by (simp only [List.length_map, List.length_append, List.length_replicate, List.length_cons, List.length_nil, List.length_take, List.length_drop]; omega)) ?_
          exact NRet.mk [] rfl ⟨by repeat (first | exact LeA.refl _ | exact LeA.nils _ | refine LeA.agg ?_ | refine LeA.tup ?_ | exact LeAs.nil | refine LeAs.cons ?_ ?_), rfl⟩
end Go.Bv
