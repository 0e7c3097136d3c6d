/- Part of the lift: an abstract walk of the program's code, proved sound, and what it shows of this program. -/
import Derived.Test.YtegjfgodmenagaaSvDisk
namespace Go.Bv
set_option linter.unusedSimpArgs false
set_option linter.unusedVariables false
set_option maxHeartbeats 4000000
open Go Go.Proofs

theorem at5_walk (f l : List UInt8) (i : Nat) (h : i < (f ++ l).length) (hb : f.length + l.length ≤ 2 ^ 45) : ACalls Try.prog Nm.ref05_at [diskA f l, i64 i] [] (u8 (f ++ l)[i]) [] := by
  refine ACalls_of tab (dr_snd tab mixed) Nm.ref05_at_h rfl (by kernel_rfl) (Nat.le_of_ble_eq_true rfl) rfl ?_
  by_cases hi : i < f.length
  · rw [List.getElem_append_left hi]
    refine ND.yes (by (simp only [List.length_map, List.length_append, List.length_replicate, List.length_cons, List.length_nil, List.length_take, List.length_drop]; omega)) ?_
    refine NP.mk (by omega) ?_
    refine NG.mapN (by omega) ?_
    exact NRet.mk [] rfl ⟨.refl _, rfl⟩
  · have h' : i - f.length < l.length := by rw [List.length_append] at h; omega
    rw [List.getElem_append_right (by omega)]
    refine NB.dec (fun h1 => absurd h1 (by simp only [List.length_map]; omega)) (fun h1 => ?_)
    refine NW.i64 (by simp only [List.length_map]; omega) (by simp only [List.length_map]; omega) ?_
    refine NP.mk (by simp only [List.length_map]; omega) (NG.mapE (j := i - f.length) (by simp only [List.length_map]; omega) h' ?_)
    exact NRet.mk [] rfl ⟨.refl _, rfl⟩

theorem size5_walk (f l : List UInt8) (hb : f.length + l.length ≤ 2 ^ 45) : ACalls Try.prog Nm.ref05_size [diskA f l] [] (i64 (f.length + l.length : Nat)) [] := by
  refine ACalls_of tab (dr_snd tab mixed) Nm.ref05_size_h rfl (by kernel_rfl) (Nat.le_of_ble_eq_true rfl) rfl ?_
  refine NW.i64 (by (simp only [List.length_map, List.length_append, List.length_replicate, List.length_cons, List.length_nil, List.length_take, List.length_drop]; omega)) (by (simp only [List.length_map, List.length_append, List.length_replicate, List.length_cons, List.length_nil, List.length_take, List.length_drop]; omega)) ?_
  exact NRet.mk [] rfl ⟨by simp only [List.length_map]; exact .refl _, rfl⟩

theorem same5_walk (f l f' l' : List UInt8) (hb : f.length + l.length ≤ 2 ^ 45) : ACalls Try.prog Nm.ref05_Same [diskA f l, diskA f' l'] [] (.bool (decide (f = f') && decide (l = l'))) [] := by
  refine ACalls_of tab (dr_snd tab mixed) Nm.ref05_Same_h rfl (by kernel_rfl) (Nat.le_of_ble_eq_true rfl) rfl ?_
  refine NCall.call (sameB_walk f f' (by omega)) rfl rfl ?_
  refine NB.mk (fun hk1 => ?_) (fun hk1 => ?_)
  · refine NB.yes (by simp [*]) ?_
    refine NB.yes (by simp [*]) ?_
    refine NB.yes (by simp [*]) ?_
    refine NB.yes (by simp [*]) ?_
    refine NCall.call (sameB_walk l l' (by omega)) rfl rfl ?_
    refine NB.yes (by simp [*]) ?_
    exact NRet.mk [] rfl ⟨by rw [hk1, Bool.true_and]; exact .refl _, rfl⟩
  · refine NB.no (by simp [*]) ?_
    refine NB.no (by simp [*]) ?_
    refine NB.no (by simp [*]) ?_
    refine NB.no (by simp [*]) ?_
    refine NB.no (by simp [*]) ?_
    exact NRet.mk [] rfl ⟨by rw [hk1, Bool.false_and]; exact .refl _, rfl⟩

theorem copy5_walk (f l : List UInt8) (hb : f.length + l.length ≤ 2 ^ 45) : ACalls Try.prog Nm.ref05_Copy [diskA f l] [] (.agg [.own 0 0 f.length, .own 1 0 l.length]) [.row .vrow .leaf (f.map u8), .row .vrow .leaf (l.map u8)] := by
  refine ACalls_of tab (dr_snd tab mixed) Nm.ref05_Copy_h rfl (by kernel_rfl) (Nat.le_of_ble_eq_true rfl) rfl ?_
  refine NP.mk (by kernel_rfl) ?_
  apply NDr.rd [0]
  · intro fH TH
    exact ⟨rfl, rfl⟩
  apply NDr.rd [0]
  · intro fH TH
    exact ⟨rfl, rfl⟩
  apply NDr.efw []
  · refine NCall.atA (ACalls.frame (copyB_walk f (by omega)) rfl _) ?_
    exact ⟨rfl, rfl⟩
  · repeat (first | exact trivial | refine ⟨by first | trivial | rfl, ?_⟩)
  apply NDr.rd [0]
  · intro fH TH
    exact ⟨rfl, rfl⟩
  apply NDr.rd [0]
  · intro fH TH
    exact ⟨rfl, rfl⟩
  apply NDr.efw []
  · refine NCall.atA (ACalls.frame (copyB_walk l (by omega)) rfl _) ?_
    exact ⟨rfl, rfl⟩
  · repeat (first | exact trivial | refine ⟨by first | trivial | rfl, ?_⟩)
  apply NDr.any
  · intro H'
    exact ⟨rfl, rfl⟩
  apply NDr.efw [1, 2, 3]
  · exact ⟨rfl, rfl⟩
  · repeat (first | exact trivial | refine ⟨by first | trivial | rfl, ?_⟩)
  refine NP.mk (by kernel_rfl) ?_
  exact NRet.mk [2, 3] rfl ⟨.refl _, rfl⟩

theorem write5_walk (f l b : List UInt8) (h : f.length + l.length + b.length ≤ 2 ^ 44) : ACalls Try.prog Nm.ref05_Write [diskA f l, bytes b] [] (if f.length + l.length + b.length ≤ 4194304 then .tup [diskA f (l ++ b), i64 0] else .tup [diskA [] [], i64 6]) [] := by
  refine ACalls_of tab (dr_snd tab mixed) Nm.ref05_Write_h rfl (by kernel_rfl) (Nat.le_of_ble_eq_true rfl) rfl ?_
  by_cases hf : f.length + l.length + b.length ≤ 4194304
  · rw [if_pos hf]
    refine NCall.call (size5_walk f l (by omega)) rfl rfl ?_
    refine NW.i64 (by (simp only [List.length_map, List.length_append, List.length_replicate, List.length_cons, List.length_nil, List.length_take, List.length_drop]; omega)) (by (simp only [List.length_map, List.length_append, List.length_replicate, List.length_cons, List.length_nil, List.length_take, List.length_drop]; omega)) ?_
    refine ND.no (by (simp only [List.length_map, List.length_append, List.length_replicate, List.length_cons, List.length_nil, List.length_take, List.length_drop]; omega)) ?_
    refine NP.mk (by kernel_rfl) ?_
    apply NDr.rd [0]
    · intro fH TH
      exact ⟨rfl, rfl⟩
    apply NDr.rd [0]
    · intro fH TH
      exact ⟨rfl, rfl⟩
    apply NDr.rd [0]
    · intro fH TH
      exact ⟨rfl, rfl⟩
    apply NDr.rd [0]
    · intro fH TH
      exact ⟨rfl, rfl⟩
    apply NDr.efw []
    · refine NCall.atA (ACalls.frame (copyB_walk l (by omega)) rfl _) ?_
      exact ⟨rfl, rfl⟩
    · repeat (first | exact trivial | refine ⟨by first | trivial | rfl, ?_⟩)
    apply NDr.pure
    · exact ⟨rfl, rfl⟩
    apply NDr.efw [2]
    · refine NFz.own ?_
      refine NApp.endA (by simp) (by simp; omega) ?_
      exact ⟨rfl, rfl⟩
    · repeat (first | exact trivial | refine ⟨by first | trivial | rfl, ?_⟩)
    apply NDr.any
    · intro H'
      exact ⟨rfl, rfl⟩
    apply NDr.efw [1, 3]
    · exact ⟨rfl, rfl⟩
    · repeat (first | exact trivial | refine ⟨by first | trivial | rfl, ?_⟩)
    apply NDr.pure
    · exact ⟨rfl, rfl⟩
    refine NP.mk (by kernel_rfl) ?_
    rw [(mapApp _ _ _)]
    exact NRet.mk [] rfl (NFrz.mk ((l ++ b).map u8) (by simp) (by simp [List.take_of_length_le]) ⟨.refl _, rfl⟩)
  · rw [if_neg hf]
    refine NCall.call (size5_walk f l (by omega)) rfl rfl ?_
    refine NW.i64 (by (simp only [List.length_map, List.length_append, List.length_replicate, List.length_cons, List.length_nil, List.length_take, List.length_drop]; omega)) (by (simp only [List.length_map, List.length_append, List.length_replicate, List.length_cons, List.length_nil, List.length_take, List.length_drop]; omega)) ?_
    refine ND.yes (by (simp only [List.length_map, List.length_append, List.length_replicate, List.length_cons, List.length_nil, List.length_take, List.length_drop]; omega)) ?_
    exact NRet.mk [] rfl ⟨by repeat (first | exact LeA.refl _ | exact LeA.nils _ | refine LeA.agg ?_ | refine LeA.tup ?_ | exact LeAs.nil | refine LeAs.cons ?_ ?_), rfl⟩

theorem first5_walk (f l : List UInt8) (n : Nat) (hn : n ≤ f.length + l.length) (hb : f.length + l.length ≤ 2 ^ 44) : ACalls Try.prog Nm.ref05_First [diskA f l, i64 n] [] (diskA ((f ++ l).take n) []) [] := by
  refine ACalls_of tab (dr_snd tab mixed) Nm.ref05_First_h rfl (by kernel_rfl) (Nat.le_of_ble_eq_true rfl) rfl ?_
  have hlen : (f ++ l).length = f.length + l.length := List.length_append
  refine NLoop.mk [] [1, 2, 4, 5, 6] (fun m vs H => ∃ i, i ≤ n ∧ m = n - i ∧ vs = [i64 n, .ptr 0 0 0, .ptr 1 0 0, .ptr 2 0 0, i64 i] ∧
    ((i = 0 ∧ H = [.row .box (.agg 2) [diskA f l], .row .box (.agg 2) [.agg [.nils, .nils]], .row .box (.agg 2) [.agg [.nils, .nils]]]) ∨
     (0 < i ∧ H = [.row .box (.agg 2) [diskA f l], .row .box (.agg 2) [.agg [.nils, .nils]], .row .box (.agg 2) [.agg [.own 3 0 i, .nils]], .row .vrow .leaf (((f ++ l).take i).map u8)]))) rfl ?_ ?_
  · exact Canon.mk [0, 1, 2] rfl ⟨n, 0, Nat.zero_le _, rfl, rfl, .inl ⟨rfl, rfl⟩⟩
  · rintro m vs H ⟨i, hi, rfl, rfl, ⟨rfl, rfl⟩ | ⟨hi0, rfl⟩⟩
    · refine NB.dec (fun h => ?_) (fun h => ?_)
      · refine NP.mk (by kernel_rfl) ?_
        apply NDr.rd [2]
        · intro fH TH
          exact ⟨rfl, rfl⟩
        apply NDr.rd [2]
        · intro fH TH
          exact ⟨rfl, rfl⟩
        apply NDr.rd [0]
        · intro fH TH
          exact ⟨rfl, rfl⟩
        apply NDr.pure
        · exact ⟨rfl, rfl⟩
        apply NDr.pure
        · refine NCall.call (at5_walk f l 0 (by omega) (by omega)) rfl rfl ?_
          exact ⟨rfl, rfl⟩
        apply NDr.pure
        · refine NMk.lst ?_
          exact ⟨rfl, rfl⟩
        apply NDr.efw []
        · refine NFz.own ?_
          refine NP.mk (by (simp)) ?_
          exact ⟨rfl, rfl⟩
        · repeat (first | exact trivial | refine ⟨by first | trivial | rfl, ?_⟩)
        apply NDr.rd [2]
        · intro fH TH
          exact ⟨rfl, rfl⟩
        apply NDr.efw [2, 3]
        · exact ⟨rfl, rfl⟩
        · repeat (first | exact trivial | refine ⟨by first | trivial | rfl, ?_⟩)
        refine NP.mk (by kernel_rfl) ?_
        refine NW.i64 (by omega) (by omega) ?_
        have e : (f ++ l).take 1 = [(f ++ l)[0]] := by rw [List.take_succ_eq_append_getElem (by omega)]; rfl
        exact Canon.mk [0, 1, 2, 3] rfl ⟨n - 1, by omega, 1, by omega, rfl, rfl, .inr ⟨by omega, by rw [e]; rfl⟩⟩
      · have : n = 0 := by omega
        subst this
        exact NRet.mk [] rfl ⟨by repeat (first | exact LeA.refl _ | exact LeA.nils _ | refine LeA.agg ?_ | refine LeA.tup ?_ | exact LeAs.nil | refine LeAs.cons ?_ ?_), rfl⟩
    · refine NB.dec (fun h => ?_) (fun h => ?_)
      · refine NP.mk (by kernel_rfl) ?_
        apply NDr.rd [2]
        · intro fH TH
          exact ⟨rfl, rfl⟩
        apply NDr.rd [2]
        · intro fH TH
          exact ⟨rfl, rfl⟩
        apply NDr.rd [0]
        · intro fH TH
          exact ⟨rfl, rfl⟩
        apply NDr.pure
        · exact ⟨rfl, rfl⟩
        apply NDr.pure
        · refine NCall.call (at5_walk f l i (by omega) (by omega)) rfl rfl ?_
          exact ⟨rfl, rfl⟩
        apply NDr.pure
        · refine NMk.lst ?_
          exact ⟨rfl, rfl⟩
        apply NDr.efw [3]
        · refine NFz.own ?_
          refine NApp.endA (by simp; omega) (by simp; omega) ?_
          exact ⟨rfl, rfl⟩
        · repeat (first | exact trivial | refine ⟨by first | trivial | rfl, ?_⟩)
        apply NDr.rd [2]
        · intro fH TH
          exact ⟨rfl, rfl⟩
        apply NDr.efw [2, 4]
        · exact ⟨rfl, rfl⟩
        · repeat (first | exact trivial | refine ⟨by first | trivial | rfl, ?_⟩)
        refine NP.mk (by kernel_rfl) ?_
        refine NW.i64 (by omega) (by omega) ?_
        have hi' : i < (f ++ l).length := by omega
        have e : ((f ++ l).take (i + 1)).map u8 = ((f ++ l).take i).map u8 ++ [u8 (f ++ l)[i]] := by rw [List.take_succ_eq_append_getElem hi', List.map_append]; rfl
        have el : (((f ++ l).take i).map u8 ++ [u8 (f ++ l)[i]]).length = i + 1 := by simp only [List.length_append, List.length_map, List.length_take, List.length_cons, List.length_nil]; omega
        refine Canon.mk [0, 1, 2, 4] rfl ⟨n - (i + 1), by omega, i + 1, by omega, rfl, rfl, .inr ⟨by omega, ?_⟩⟩
        show [_, _, Blk.row .box (.agg 2) [.agg [.own 3 0 (((f ++ l).take i).map u8 ++ [u8 (f ++ l)[i]]).length, .nils]], Blk.row .vrow .leaf (((f ++ l).take i).map u8 ++ [u8 (f ++ l)[i]])] = _
        rw [el, e]; rfl
      · have : i = n := by omega
        subst this
        refine NRet.mk [] rfl (NFrz.mk (((f ++ l).take i).map u8) (by simp only [List.length_map, List.length_take]; omega) (by rw [List.drop_zero]; exact (List.take_of_length_le (by simp only [List.length_map, List.length_take]; omega)).symm) ⟨?_, rfl⟩)
        repeat (first | exact LeA.refl _ | exact LeA.nils _ | refine LeA.agg ?_ | refine LeA.tup ?_ | exact LeAs.nil | refine LeAs.cons ?_ ?_)

theorem cut_walk (f l : List UInt8) (n : Int) (hb : f.length + l.length ≤ 2 ^ 44) : ACalls Try.prog Nm.disk_Cut [diskA f l, i64 n] [] (if n < 0 ∨ (f.length + l.length : Nat) < n then .tup [diskA [] [], i64 1] else .tup [diskA ((f ++ l).take n.toNat) [], i64 0]) [] := by
  refine ACalls_of tab (dr_snd tab mixed) Nm.disk_Cut_h rfl (by kernel_rfl) (Nat.le_of_ble_eq_true rfl) rfl ?_
  by_cases h : n < 0 ∨ ((f.length + l.length : Nat) : Int) < n
  · rw [if_pos h]
    rcases h with h | h
    · refine NCall.call (diskAll_walk f l (by omega)) rfl rfl ?_
      refine ND.yes (by omega) ?_
      exact NRet.mk [] rfl ⟨by repeat (first | exact LeA.refl _ | exact LeA.nils _ | refine LeA.agg ?_ | refine LeA.tup ?_ | exact LeAs.nil | refine LeAs.cons ?_ ?_), rfl⟩
    · refine NCall.call (diskAll_walk f l (by omega)) rfl rfl ?_
      refine ND.no (by omega) ?_
      refine ND.yes (by (simp only [List.length_map, List.length_append, List.length_replicate, List.length_cons, List.length_nil, List.length_take, List.length_drop]; omega)) ?_
      exact NRet.mk [] rfl ⟨by repeat (first | exact LeA.refl _ | exact LeA.nils _ | refine LeA.agg ?_ | refine LeA.tup ?_ | exact LeAs.nil | refine LeAs.cons ?_ ?_), rfl⟩
  · rw [if_neg h]
    refine NCall.call (diskAll_walk f l (by omega)) rfl rfl ?_
    refine ND.no (by omega) ?_
    refine ND.no (by (simp only [List.length_map, List.length_append, List.length_replicate, List.length_cons, List.length_nil, List.length_take, List.length_drop]; omega)) ?_
    refine NP.mk (by (simp only [List.length_map, List.length_append, List.length_replicate, List.length_cons, List.length_nil, List.length_take, List.length_drop]; omega)) ?_
    exact NRet.mk [] rfl ⟨.tup (.cons (.agg (.cons (by unfold bytes; rw [List.map_take]; exact .refl _) (.cons (.nils .leaf) .nil))) (.cons (.refl _) .nil)), rfl⟩

theorem copy5_list (f l : List UInt8) (hb : f.length + l.length ≤ 2 ^ 45) : ACalls Try.prog Nm.ref05_Copy [diskA f l] [] (diskA f l) [] :=
  (copy5_walk f l hb).drop (.val (.agg (.cons (.own trivial rfl (by simp) (by simp) (by simp [List.take_of_length_le])) (.cons (.own trivial rfl (by simp) (by simp) (by simp [List.take_of_length_le])) .nil))) rfl (fun _ => by simp) (fun _ => by simp [diskA]))

end Go.Bv
