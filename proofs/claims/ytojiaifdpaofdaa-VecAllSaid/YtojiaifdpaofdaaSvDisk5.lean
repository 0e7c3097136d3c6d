/- Part of the lift: an abstract walk of the program's code, proved sound, and what it shows of this program. -/
import Derived.Test.YtojiaifdpaofdaaSvDisk
namespace Go.Bv
set_option linter.unusedSimpArgs false
set_option linter.unusedVariables false
open Go Go.Proofs

theorem at5_walk (f l : List UInt8) (i : Nat) (h : i < (f ++ l).length) (hb : f.length + l.length ≤ 2 ^ 45) : ACalls Try.prog Nm.ref05_at [diskA f l, i64 i] [] (u8 (f ++ l)[i]) [] := by
  refine ACalls_of tab (dr_snd tab mixed) Nm.ref05_at_h rfl (by kernel_rfl) (Nat.le_of_ble_eq_true rfl) rfl ?_
  by_cases hi : i < f.length
  · rw [List.getElem_append_left hi]
    refine NB.dec (fun h1 => ?_) (fun h1 => ?_)
    rotate_left
    · exact absurd (by (simp only [List.length_map, List.length_append, List.length_replicate, List.length_cons, List.length_nil, List.length_take, List.length_drop]; omega)) h1
    refine NP.mk (by omega) ?_
    refine NG.mapN (by omega) ?_
    exact NRet.mk [] rfl ⟨.refl _, rfl⟩
  · have h' : i - f.length < l.length := by rw [List.length_append] at h; omega
    rw [List.getElem_append_right (by omega)]
    refine NB.dec (fun h1 => absurd h1 (by simp only [List.length_map]; omega)) (fun h1 => ?_)
    refine NW.i64 (by simp only [List.length_map]; omega) (by simp only [List.length_map]; omega) ?_
    refine NP.mk (by simp only [List.length_map]; omega) (NG.mapE (j := i - f.length) (by simp only [List.length_map]; omega) h' ?_)
    exact NRet.mk [] rfl ⟨.refl _, rfl⟩

theorem size5_walk (f l : List UInt8) (hb : f.length + l.length ≤ 2 ^ 45) : ACalls Try.prog Nm.ref05_size [diskA f l] [] (i64 (f.length + l.length : Nat)) [] := by
  refine ACalls_of tab (dr_snd tab mixed) Nm.ref05_size_h rfl (by kernel_rfl) (Nat.le_of_ble_eq_true rfl) rfl ?_
  refine NW.i64 (by (simp only [List.length_map, List.length_append, List.length_replicate, List.length_cons, List.length_nil, List.length_take, List.length_drop]; omega)) (by (simp only [List.length_map, List.length_append, List.length_replicate, List.length_cons, List.length_nil, List.length_take, List.length_drop]; omega)) ?_
  exact NRet.mk [] rfl ⟨by simp only [List.length_map]; exact .refl _, rfl⟩
theorem Size5_walk (f l : List UInt8) (hb : f.length + l.length ≤ 2 ^ 45) : ACalls Try.prog Nm.ref05_Size [diskA f l] [] (i64 (f.length + l.length : Nat)) [] := by
  refine ACalls_of tab (dr_snd tab mixed) Nm.ref05_Size_h rfl (by kernel_rfl) (Nat.le_of_ble_eq_true rfl) rfl ?_
  refine NCall.call (size5_walk f l hb) rfl rfl ?_
  exact NRet.mk [] rfl ⟨.refl _, rfl⟩

theorem same5_walk (f l f' l' : List UInt8) (hb : f.length + l.length ≤ 2 ^ 45) : ACalls Try.prog Nm.ref05_Same [diskA f l, diskA f' l'] [] (.bool (decide (f = f') && decide (l = l'))) [] := by
  refine ACalls_of tab (dr_snd tab mixed) Nm.ref05_Same_h rfl (by kernel_rfl) (Nat.le_of_ble_eq_true rfl) rfl ?_
  refine NCall.call (sameB_walk f f' (by omega)) rfl rfl ?_
  refine NB.dec (fun h1 => ?_) (fun h1 => ?_)
  · refine NB.dec (fun h1 => ?_) (fun h1 => ?_)
    rotate_left
    · exact absurd (by omega) h1
    refine NB.dec (fun h2 => ?_) (fun h2 => ?_)
    rotate_left
    · exact absurd (by omega) h2
    refine NB.dec (fun h3 => ?_) (fun h3 => ?_)
    rotate_left
    · exact absurd (by omega) h3
    refine NB.dec (fun h4 => ?_) (fun h4 => ?_)
    rotate_left
    · exact absurd (by omega) h4
    refine NCall.call (sameB_walk l l' (by omega)) rfl rfl ?_
    refine NB.dec (fun h5 => ?_) (fun h5 => ?_)
    rotate_left
    · exact absurd (by omega) h5
    exact NRet.mk [] rfl ⟨by rw [decide_eq_true h1, Bool.true_and]; exact .refl _, rfl⟩
  · refine NB.dec (fun h1 => ?_) (fun h1 => ?_)
    · exact absurd h1 (by omega)
    refine NB.dec (fun h2 => ?_) (fun h2 => ?_)
    · exact absurd h2 (by omega)
    refine NB.dec (fun h3 => ?_) (fun h3 => ?_)
    · exact absurd h3 (by omega)
    refine NB.dec (fun h4 => ?_) (fun h4 => ?_)
    · exact absurd h4 (by omega)
    refine NB.dec (fun h5 => ?_) (fun h5 => ?_)
    · exact absurd h5 (by omega)
    exact NRet.mk [] rfl ⟨by rw [decide_eq_false h1, Bool.false_and]; exact .refl _, rfl⟩

theorem copy5_walk (f l : List UInt8) (hb : f.length + l.length ≤ 2 ^ 45) : ACalls Try.prog Nm.ref05_Copy [diskA f l] [] (.agg [.own 0 0 f.length, .own 1 0 l.length]) [.row .vrow .leaf (f.map u8), .row .vrow .leaf (l.map u8)] := by
  refine ACalls_of tab (dr_snd tab mixed) Nm.ref05_Copy_h rfl (by kernel_rfl) (Nat.le_of_ble_eq_true rfl) rfl ?_
  refine NP.mk (by kernel_rfl) ?_
  apply NDr.rd [0]
  · intro fH TH
    exact ⟨rfl, rfl⟩
  apply NDr.rd [0]
  · intro fH TH
    exact ⟨rfl, rfl⟩
  apply NDr.efw []
  · refine NCall.atN (ACalls.frame (copyB_walk f (by omega)) rfl _) (by (try dsimp only [List.length_cons, List.length_nil, List.cons_append, List.nil_append, List.set_cons_zero, List.set_cons_succ, List.map_cons, List.map_nil, List.replicate_succ, List.replicate_zero, List.take_succ_cons, List.take_zero, List.drop_succ_cons, List.drop_zero, Blk.shift, killAll, AV.shT, AV.shA, AV.shR, AV.sh1]) <;> exact rfl) (by (try dsimp only [List.length_cons, List.length_nil, List.cons_append, List.nil_append, List.set_cons_zero, List.set_cons_succ, List.map_cons, List.map_nil, List.replicate_succ, List.replicate_zero, List.take_succ_cons, List.take_zero, List.drop_succ_cons, List.drop_zero, Blk.shift, killAll, AV.shT, AV.shA, AV.shR, AV.sh1]) <;> exact rfl) ?_
    exact ⟨rfl, rfl⟩
  · repeat (first | exact trivial | refine ⟨by first | trivial | rfl, ?_⟩)
  apply NDr.rd [0]
  · intro fH TH
    exact ⟨rfl, rfl⟩
  apply NDr.rd [0]
  · intro fH TH
    exact ⟨rfl, rfl⟩
  apply NDr.efw []
  · refine NCall.atN (ACalls.frame (copyB_walk l (by omega)) rfl _) (by (try dsimp only [List.length_cons, List.length_nil, List.cons_append, List.nil_append, List.set_cons_zero, List.set_cons_succ, List.map_cons, List.map_nil, List.replicate_succ, List.replicate_zero, List.take_succ_cons, List.take_zero, List.drop_succ_cons, List.drop_zero, Blk.shift, killAll, AV.shT, AV.shA, AV.shR, AV.sh1]) <;> exact rfl) (by (try dsimp only [List.length_cons, List.length_nil, List.cons_append, List.nil_append, List.set_cons_zero, List.set_cons_succ, List.map_cons, List.map_nil, List.replicate_succ, List.replicate_zero, List.take_succ_cons, List.take_zero, List.drop_succ_cons, List.drop_zero, Blk.shift, killAll, AV.shT, AV.shA, AV.shR, AV.sh1]) <;> exact rfl) ?_
    exact ⟨rfl, rfl⟩
  · repeat (first | exact trivial | refine ⟨by first | trivial | rfl, ?_⟩)
  apply NDr.any
  · intro H'
    exact ⟨rfl, rfl⟩
  apply NDr.efw [1, 2, 3]
  · exact ⟨rfl, rfl⟩
  · repeat (first | exact trivial | refine ⟨by first | trivial | rfl, ?_⟩)
  refine NP.mk (by kernel_rfl) ?_
  exact NRet.mk [2, 3] rfl ⟨.refl _, rfl⟩

theorem write5_walk (f l b : List UInt8) (h : f.length + l.length + b.length ≤ 2 ^ 44) : ACalls Try.prog Nm.ref05_Write [diskA f l, bytes b] [] (if f.length + l.length + b.length ≤ 4194304 then .tup [diskA f (l ++ b), i64 0] else .tup [diskA [] [], i64 6]) [] := by
  refine ACalls_of tab (dr_snd tab mixed) Nm.ref05_Write_h rfl (by kernel_rfl) (Nat.le_of_ble_eq_true rfl) rfl ?_
  by_cases hf : f.length + l.length + b.length ≤ 4194304
  · rw [if_pos hf]
    refine NCall.call (size5_walk f l (by omega)) rfl rfl ?_
    refine NW.i64 (by (simp only [List.length_map, List.length_append, List.length_replicate, List.length_cons, List.length_nil, List.length_take, List.length_drop]; omega)) (by (simp only [List.length_map, List.length_append, List.length_replicate, List.length_cons, List.length_nil, List.length_take, List.length_drop]; omega)) ?_
    refine NB.dec (fun h1 => ?_) (fun h1 => ?_)
    · exact absurd h1 (by (simp only [List.length_map, List.length_append, List.length_replicate, List.length_cons, List.length_nil, List.length_take, List.length_drop]; omega))
    refine NP.mk (by kernel_rfl) ?_
    apply NDr.rd [0]
    · intro fH TH
      exact ⟨rfl, rfl⟩
    apply NDr.rd [0]
    · intro fH TH
      exact ⟨rfl, rfl⟩
    apply NDr.rd [0]
    · intro fH TH
      exact ⟨rfl, rfl⟩
    apply NDr.rd [0]
    · intro fH TH
      exact ⟨rfl, rfl⟩
    apply NDr.efw []
    · refine NCall.atN (ACalls.frame (copyB_walk l (by omega)) rfl _) (by (try dsimp only [List.length_cons, List.length_nil, List.cons_append, List.nil_append, List.set_cons_zero, List.set_cons_succ, List.map_cons, List.map_nil, List.replicate_succ, List.replicate_zero, List.take_succ_cons, List.take_zero, List.drop_succ_cons, List.drop_zero, Blk.shift, killAll, AV.shT, AV.shA, AV.shR, AV.sh1]) <;> exact rfl) (by (try dsimp only [List.length_cons, List.length_nil, List.cons_append, List.nil_append, List.set_cons_zero, List.set_cons_succ, List.map_cons, List.map_nil, List.replicate_succ, List.replicate_zero, List.take_succ_cons, List.take_zero, List.drop_succ_cons, List.drop_zero, Blk.shift, killAll, AV.shT, AV.shA, AV.shR, AV.sh1]) <;> exact rfl) ?_
      exact ⟨rfl, rfl⟩
    · repeat (first | exact trivial | refine ⟨by first | trivial | rfl, ?_⟩)
    apply NDr.pure
    · exact ⟨rfl, rfl⟩
    apply NDr.efw [2]
    · refine NFz.own ?_
      refine NApp.enddN rfl (by simp only [List.length_map, List.length_append, List.length_replicate, List.length_cons, List.length_nil, List.length_take, List.length_drop]) (by simp only [List.length_map, List.length_append, List.length_replicate, List.length_cons, List.length_nil, List.length_take, List.length_drop]; omega) (by (try dsimp only [List.length_cons, List.length_nil, List.cons_append, List.nil_append, List.set_cons_zero, List.set_cons_succ, List.map_cons, List.map_nil, List.replicate_succ, List.replicate_zero, List.take_succ_cons, List.take_zero, List.drop_succ_cons, List.drop_zero, Blk.shift, killAll, AV.shT, AV.shA, AV.shR, AV.sh1]) <;> exact rfl) (by (try dsimp only [List.length_cons, List.length_nil, List.cons_append, List.nil_append, List.set_cons_zero, List.set_cons_succ, List.map_cons, List.map_nil, List.replicate_succ, List.replicate_zero, List.take_succ_cons, List.take_zero, List.drop_succ_cons, List.drop_zero, Blk.shift, killAll, AV.shT, AV.shA, AV.shR, AV.sh1]) <;> exact rfl) (by (try dsimp only [List.length_cons, List.length_nil, List.cons_append, List.nil_append, List.set_cons_zero, List.set_cons_succ, List.map_cons, List.map_nil, List.replicate_succ, List.replicate_zero, List.take_succ_cons, List.take_zero, List.drop_succ_cons, List.drop_zero, Blk.shift, killAll, AV.shT, AV.shA, AV.shR, AV.sh1]) <;> exact rfl) (by (try dsimp only [List.length_cons, List.length_nil, List.cons_append, List.nil_append, List.set_cons_zero, List.set_cons_succ, List.map_cons, List.map_nil, List.replicate_succ, List.replicate_zero, List.take_succ_cons, List.take_zero, List.drop_succ_cons, List.drop_zero, Blk.shift, killAll, AV.shT, AV.shA, AV.shR, AV.sh1]) <;> exact rfl) ?_
      exact ⟨rfl, rfl⟩
    · repeat (first | exact trivial | refine ⟨by first | trivial | rfl, ?_⟩)
    apply NDr.any
    · intro H'
      exact ⟨rfl, rfl⟩
    apply NDr.efw [1, 3]
    · exact ⟨rfl, rfl⟩
    · repeat (first | exact trivial | refine ⟨by first | trivial | rfl, ?_⟩)
    apply NDr.pure
    · exact ⟨rfl, rfl⟩
    refine NP.mk (by kernel_rfl) ?_
    exact NRet.mk [] rfl (NFrz.mk ((l ++ b).map u8) (by simp) (by simp [List.take_of_length_le]) ⟨.refl _, rfl⟩)
  · rw [if_neg hf]
    refine NCall.call (size5_walk f l (by omega)) rfl rfl ?_
    refine NW.i64 (by (simp only [List.length_map, List.length_append, List.length_replicate, List.length_cons, List.length_nil, List.length_take, List.length_drop]; omega)) (by (simp only [List.length_map, List.length_append, List.length_replicate, List.length_cons, List.length_nil, List.length_take, List.length_drop]; omega)) ?_
    refine NB.dec (fun h1 => ?_) (fun h1 => ?_)
    rotate_left
    · exact absurd (by (simp only [List.length_map, List.length_append, List.length_replicate, List.length_cons, List.length_nil, List.length_take, List.length_drop]; omega)) h1
    exact NRet.mk [] rfl ⟨by repeat (first | exact LeA.refl _ | exact LeA.nils _ | refine LeA.agg ?_ | refine LeA.tup ?_ | exact LeAs.nil | refine LeAs.cons ?_ ?_), rfl⟩

theorem first5_walk (f l : List UInt8) (n : Nat) (hn : n ≤ f.length + l.length) (hb : f.length + l.length ≤ 2 ^ 44) : ACalls Try.prog Nm.ref05_First [diskA f l, i64 n] [] (diskA ((f ++ l).take n) []) [] := by
  refine ACalls_of tab (dr_snd tab mixed) Nm.ref05_First_h rfl (by kernel_rfl) (Nat.le_of_ble_eq_true rfl) rfl ?_
  have hlen : (f ++ l).length = f.length + l.length := List.length_append
  refine NLoop.mk [] [1, 2, 4, 5, 6] (fun m vs H => ∃ i, i ≤ n ∧ m = n - i ∧ vs = [i64 n, .ptr 0 0 0, .ptr 1 0 0, .ptr 2 0 0, i64 i] ∧
    ((i = 0 ∧ H = [.row .box (.agg 2) [diskA f l], .row .box (.agg 2) [.agg [.nils, .nils]], .row .box (.agg 2) [.agg [.nils, .nils]]]) ∨
     (0 < i ∧ H = [.row .box (.agg 2) [diskA f l], .row .box (.agg 2) [.agg [.nils, .nils]], .row .box (.agg 2) [.agg [.own 3 0 i, .nils]], .row .vrow .leaf (((f ++ l).take i).map u8)]))) rfl ?_ ?_
  · exact Canon.mk [0, 1, 2] rfl ⟨n, 0, Nat.zero_le _, rfl, rfl, .inl ⟨rfl, rfl⟩⟩
  · rintro m vs H ⟨i, hi, rfl, rfl, ⟨rfl, rfl⟩ | ⟨hi0, rfl⟩⟩
    · refine NB.dec (fun h => ?_) (fun h => ?_)
      · refine NP.mk (by kernel_rfl) ?_
        apply NDr.rd [2]
        · intro fH TH
          exact ⟨rfl, rfl⟩
        apply NDr.rd [2]
        · intro fH TH
          exact ⟨rfl, rfl⟩
        apply NDr.rd [0]
        · intro fH TH
          exact ⟨rfl, rfl⟩
        apply NDr.pure
        · exact ⟨rfl, rfl⟩
        apply NDr.pure
        · refine NCall.call (at5_walk f l 0 (by omega) (by omega)) rfl rfl ?_
          exact ⟨rfl, rfl⟩
        apply NDr.pure
        · refine NMk.lst ?_
          exact ⟨rfl, rfl⟩
        apply NDr.efw []
        · refine NFz.own ?_
          refine NP.mk (by (simp)) ?_
          exact ⟨rfl, rfl⟩
        · repeat (first | exact trivial | refine ⟨by first | trivial | rfl, ?_⟩)
        apply NDr.rd [2]
        · intro fH TH
          exact ⟨rfl, rfl⟩
        apply NDr.efw [2, 3]
        · exact ⟨rfl, rfl⟩
        · repeat (first | exact trivial | refine ⟨by first | trivial | rfl, ?_⟩)
        refine NP.mk (by kernel_rfl) ?_
        refine NW.i64 (by omega) (by omega) ?_
        have e : (f ++ l).take 1 = [(f ++ l)[0]] := by rw [List.take_succ_eq_append_getElem (by omega)]; rfl
        exact Canon.mk [0, 1, 2, 3] rfl ⟨n - 1, by omega, 1, by omega, rfl, rfl, .inr ⟨by omega, by rw [e]; rfl⟩⟩
      · have : n = 0 := by omega
        subst this
        exact NRet.mk [] rfl ⟨by repeat (first | exact LeA.refl _ | exact LeA.nils _ | refine LeA.agg ?_ | refine LeA.tup ?_ | exact LeAs.nil | refine LeAs.cons ?_ ?_), rfl⟩
    · refine NB.dec (fun h => ?_) (fun h => ?_)
      · refine NP.mk (by kernel_rfl) ?_
        apply NDr.rd [2]
        · intro fH TH
          exact ⟨rfl, rfl⟩
        apply NDr.rd [2]
        · intro fH TH
          exact ⟨rfl, rfl⟩
        apply NDr.rd [0]
        · intro fH TH
          exact ⟨rfl, rfl⟩
        apply NDr.pure
        · exact ⟨rfl, rfl⟩
        apply NDr.pure
        · refine NCall.call (at5_walk f l i (by omega) (by omega)) rfl rfl ?_
          exact ⟨rfl, rfl⟩
        apply NDr.pure
        · refine NMk.lst ?_
          exact ⟨rfl, rfl⟩
        apply NDr.efw [3]
        · refine NFz.own ?_
          refine NApp.enddN rfl (by simp only [List.length_map, List.length_append, List.length_replicate, List.length_cons, List.length_nil, List.length_take, List.length_drop]; omega) (by simp; omega) (by (try dsimp only [List.length_cons, List.length_nil, List.cons_append, List.nil_append, List.set_cons_zero, List.set_cons_succ, List.map_cons, List.map_nil, List.replicate_succ, List.replicate_zero, List.take_succ_cons, List.take_zero, List.drop_succ_cons, List.drop_zero, Blk.shift, killAll, AV.shT, AV.shA, AV.shR, AV.sh1]) <;> exact rfl) (by (try dsimp only [List.length_cons, List.length_nil, List.cons_append, List.nil_append, List.set_cons_zero, List.set_cons_succ, List.map_cons, List.map_nil, List.replicate_succ, List.replicate_zero, List.take_succ_cons, List.take_zero, List.drop_succ_cons, List.drop_zero, Blk.shift, killAll, AV.shT, AV.shA, AV.shR, AV.sh1]) <;> exact rfl) (by (try dsimp only [List.length_cons, List.length_nil, List.cons_append, List.nil_append, List.set_cons_zero, List.set_cons_succ, List.map_cons, List.map_nil, List.replicate_succ, List.replicate_zero, List.take_succ_cons, List.take_zero, List.drop_succ_cons, List.drop_zero, Blk.shift, killAll, AV.shT, AV.shA, AV.shR, AV.sh1]) <;> exact rfl) (by (try dsimp only [List.length_cons, List.length_nil, List.cons_append, List.nil_append, List.set_cons_zero, List.set_cons_succ, List.map_cons, List.map_nil, List.replicate_succ, List.replicate_zero, List.take_succ_cons, List.take_zero, List.drop_succ_cons, List.drop_zero, Blk.shift, killAll, AV.shT, AV.shA, AV.shR, AV.sh1]) <;> exact rfl) ?_
          exact ⟨rfl, rfl⟩
        · repeat (first | exact trivial | refine ⟨by first | trivial | rfl, ?_⟩)
        apply NDr.rd [2]
        · intro fH TH
          exact ⟨rfl, rfl⟩
        apply NDr.efw [2, 4]
        · exact ⟨rfl, rfl⟩
        · repeat (first | exact trivial | refine ⟨by first | trivial | rfl, ?_⟩)
        refine NP.mk (by kernel_rfl) ?_
        refine NW.i64 (by omega) (by omega) ?_
        have hi' : i < (f ++ l).length := by omega
        have e : ((f ++ l).take (i + 1)).map u8 = ((f ++ l).take i).map u8 ++ [u8 (f ++ l)[i]] := by rw [List.take_succ_eq_append_getElem hi', List.map_append]; rfl
        have el : (((f ++ l).take i).map u8 ++ [u8 (f ++ l)[i]]).length = i + 1 := by simp only [List.length_append, List.length_map, List.length_take, List.length_cons, List.length_nil]; omega
        refine Canon.mk [0, 1, 2, 4] rfl ⟨n - (i + 1), by omega, i + 1, by omega, rfl, rfl, .inr ⟨by omega, ?_⟩⟩
        show [_, _, Blk.row .box (.agg 2) [.agg [.own 3 0 (((f ++ l).take i).map u8 ++ [u8 (f ++ l)[i]]).length, .nils]], Blk.row .vrow .leaf (((f ++ l).take i).map u8 ++ [u8 (f ++ l)[i]])] = _
        rw [el, e]; rfl
      · have : i = n := by omega
        subst this
        refine NRet.mk [] rfl (NFrz.mk (((f ++ l).take i).map u8) (by simp only [List.length_map, List.length_take]; omega) (by rw [List.drop_zero]; exact (List.take_of_length_le (by simp only [List.length_map, List.length_take]; omega)).symm) ⟨?_, rfl⟩)
        repeat (first | exact LeA.refl _ | exact LeA.nils _ | refine LeA.agg ?_ | refine LeA.tup ?_ | exact LeAs.nil | refine LeAs.cons ?_ ?_)

theorem crash5_walk (f l : List UInt8) (k : Int) (hb : f.length + l.length ≤ 2 ^ 44) : ACalls Try.prog Nm.ref05_Crash [diskA f l, i64 k] [] (diskA (f ++ l.take k.toNat) []) [] := by
  refine ACalls_of tab (dr_snd tab mixed) Nm.ref05_Crash_h rfl (by kernel_rfl) (Nat.le_of_ble_eq_true rfl) rfl ?_
  have e : ∀ j : Nat, (f ++ l).take (f.length + j) = f ++ l.take j := fun j => by rw [List.take_append, List.take_of_length_le (by omega), Nat.add_sub_cancel_left]
  have e0 := first5_walk f l (f.length + 0) (by omega) hb
  have e1 := first5_walk f l (f.length + l.length) (by omega) hb
  rw [e] at e0 e1
  by_cases h0 : k < 0
  · rw [show k.toNat = 0 by omega]
    refine NB.dec (fun h1 => ?_) (fun h1 => ?_)
    rotate_left
    · exact absurd (by omega) h1
    refine NW.i64 (by (simp only [List.length_map, List.length_append, List.length_replicate, List.length_cons, List.length_nil, List.length_take, List.length_drop]; omega)) (by (simp only [List.length_map, List.length_append, List.length_replicate, List.length_cons, List.length_nil, List.length_take, List.length_drop]; omega)) ?_
    refine NCall.eq (by (try simp only [List.length_map]) <;> exact rfl) ?_
    refine NCall.call (e0) rfl rfl ?_
    exact NRet.mk [] rfl ⟨.refl _, rfl⟩
  · by_cases h1 : l.length < k
    · rw [List.take_of_length_le (by omega)]
      rw [List.take_of_length_le (Nat.le_refl _)] at e1
      refine NB.dec (fun h1 => ?_) (fun h1 => ?_)
      · exact absurd h1 (by omega)
      refine NB.dec (fun h2 => ?_) (fun h2 => ?_)
      rotate_left
      · exact absurd (by (simp only [List.length_map, List.length_append, List.length_replicate, List.length_cons, List.length_nil, List.length_take, List.length_drop]; omega)) h2
      refine NW.i64 (by (simp only [List.length_map, List.length_append, List.length_replicate, List.length_cons, List.length_nil, List.length_take, List.length_drop]; omega)) (by (simp only [List.length_map, List.length_append, List.length_replicate, List.length_cons, List.length_nil, List.length_take, List.length_drop]; omega)) ?_
      refine NCall.eq (by (try simp only [List.length_map]) <;> exact rfl) ?_
      refine NCall.call (e1) rfl rfl ?_
      exact NRet.mk [] rfl ⟨.refl _, rfl⟩
    · obtain ⟨j, rfl⟩ : ∃ j : Nat, k = j := ⟨k.toNat, by omega⟩
      have e2 := first5_walk f l (f.length + j) (by omega) hb
      rw [e] at e2
      refine NB.dec (fun h1 => ?_) (fun h1 => ?_)
      · exact absurd h1 (by (simp only [List.length_map, List.length_append, List.length_replicate, List.length_cons, List.length_nil, List.length_take, List.length_drop]; omega))
      refine NW.i64 (by (simp only [List.length_map, List.length_append, List.length_replicate, List.length_cons, List.length_nil, List.length_take, List.length_drop]; omega)) (by (simp only [List.length_map, List.length_append, List.length_replicate, List.length_cons, List.length_nil, List.length_take, List.length_drop]; omega)) ?_
      refine NCall.eq (by (try simp only [List.length_map]) <;> exact rfl) ?_
      refine NCall.call (e2) rfl rfl ?_
      exact NRet.mk [] rfl ⟨.refl _, rfl⟩

theorem cut_walk (f l : List UInt8) (n : Int) (hb : f.length + l.length ≤ 2 ^ 44) : ACalls Try.prog Nm.disk_Cut [diskA f l, i64 n] [] (if n < 0 ∨ (f.length + l.length : Nat) < n then .tup [diskA [] [], i64 1] else .tup [diskA ((f ++ l).take n.toNat) [], i64 0]) [] := by
  refine ACalls_of tab (dr_snd tab mixed) Nm.disk_Cut_h rfl (by kernel_rfl) (Nat.le_of_ble_eq_true rfl) rfl ?_
  by_cases h : n < 0 ∨ ((f.length + l.length : Nat) : Int) < n
  · rw [if_pos h]
    rcases h with h | h
    · refine NCall.call (diskAll_walk f l (by omega)) rfl rfl ?_
      refine NB.dec (fun h1 => ?_) (fun h1 => ?_)
      rotate_left
      · exact absurd (by omega) h1
      exact NRet.mk [] rfl ⟨by repeat (first | exact LeA.refl _ | exact LeA.nils _ | refine LeA.agg ?_ | refine LeA.tup ?_ | exact LeAs.nil | refine LeAs.cons ?_ ?_), rfl⟩
    · refine NCall.call (diskAll_walk f l (by omega)) rfl rfl ?_
      refine NB.dec (fun h1 => ?_) (fun h1 => ?_)
      · exact absurd h1 (by omega)
      refine NB.dec (fun h2 => ?_) (fun h2 => ?_)
      rotate_left
      · exact absurd (by (simp only [List.length_map, List.length_append, List.length_replicate, List.length_cons, List.length_nil, List.length_take, List.length_drop]; omega)) h2
      exact NRet.mk [] rfl ⟨by repeat (first | exact LeA.refl _ | exact LeA.nils _ | refine LeA.agg ?_ | refine LeA.tup ?_ | exact LeAs.nil | refine LeAs.cons ?_ ?_), rfl⟩
  · rw [if_neg h]
    refine NCall.call (diskAll_walk f l (by omega)) rfl rfl ?_
    refine NB.dec (fun h1 => ?_) (fun h1 => ?_)
    · exact absurd h1 (by omega)
    refine NB.dec (fun h2 => ?_) (fun h2 => ?_)
    · exact absurd h2 (by (simp only [List.length_map, List.length_append, List.length_replicate, List.length_cons, List.length_nil, List.length_take, List.length_drop]; omega))
    refine NP.mk (by omega) ?_
    exact NRet.mk [] rfl ⟨.tup (.cons (.agg (.cons (by unfold bytes; rw [List.map_take]; exact .refl _) (.cons (.nils .leaf) .nil))) (.cons (.refl _) .nil)), rfl⟩

theorem diskAwake_walk : ACalls Try.prog Nm.law05_awake [] [] (.bool true) [] := by
  refine ACalls_of tab (dr_snd tab mixed) Nm.law05_awake_h rfl (by kernel_rfl) (Nat.le_of_ble_eq_true rfl) rfl ?_
  have h1 := diskWrite_walk [97, 98] [] [99, 100] (by decide)
  rw [if_pos (by decide)] at h1
  have h2 := diskCrash_walk [97, 98] [99, 100] 1 (by decide)
  have h3 := diskAll_walk [97, 98, 99] [] (by decide)
  refine NMk.own ?_
  refine NMk.own ?_
  refine NCall.frz2N 0 1 (h1.args (.cons (.agg (.cons (.refl _) (.cons (.nils .leaf) .nil))) (.cons (.refl _) .nil))) (.cons (.agg (.cons (.own rfl rfl (by simp) (by decide) rfl) (.cons (.same _) .nil))) (.cons (.same _) .nil)) (.cons (.same _) (.cons (.own rfl rfl (by simp) (by decide) rfl) .nil)) rfl rfl rfl ?_
  refine NCall.call (h2) rfl rfl ?_
  refine NCall.call (h3) rfl rfl ?_
  refine NP.mk (by exact bytes_isByte) ?_
  exact NRet.mk [] rfl ⟨.refl _, rfl⟩

theorem diskOnce_walk (f0 l0 : List UInt8) (a b : Int) (hf : f0.length ≤ reachBytes) (hl : l0.length ≤ reachBytes) : ACalls Try.prog Nm.law05_DiskOnce [diskA f0 l0, i64 a, i64 b] [] (.bool true) [] := by
  have hf := reach_lt hf
  have hl := reach_lt hl
  refine ACalls_of tab (dr_snd tab mixed) Nm.law05_DiskOnce_h rfl (by kernel_rfl) (Nat.le_of_ble_eq_true rfl) rfl ?_
  have e1 : (f0.map u8).take (Int.toNat (min ((f0.map u8).length : Int) 3000)) = (f0.take 3000).map u8 := cut_map u8 f0 3000
  have e2 : (l0.map u8).take (Int.toNat (min ((l0.map u8).length : Int) 3000)) = (l0.take 3000).map u8 := cut_map u8 l0 3000
  refine NCall.call (diskAwake_walk) rfl rfl ?_
  refine NP.mk (by kernel_rfl) ?_
  apply NDr.rd [0]
  · intro fH TH
    exact ⟨rfl, rfl⟩
  apply NDr.rd [0]
  · intro fH TH
    exact ⟨rfl, rfl⟩
  apply NDr.rd [0]
  · intro fH TH
    exact ⟨rfl, rfl⟩
  apply NDr.rd [0]
  · intro fH TH
    exact ⟨rfl, rfl⟩
  apply NDr.pure
  · exact ⟨rfl, rfl⟩
  apply NDr.pure
  · exact ⟨rfl, rfl⟩
  apply NDr.pure
  · refine NP.mk (by omega) ?_
    exact ⟨rfl, rfl⟩
  apply NDr.rd [0]
  · intro fH TH
    exact ⟨rfl, rfl⟩
  apply NDr.rd [0]
  · intro fH TH
    exact ⟨rfl, rfl⟩
  apply NDr.rd [0]
  · intro fH TH
    exact ⟨rfl, rfl⟩
  apply NDr.rd [0]
  · intro fH TH
    exact ⟨rfl, rfl⟩
  apply NDr.pure
  · exact ⟨rfl, rfl⟩
  apply NDr.pure
  · exact ⟨rfl, rfl⟩
  apply NDr.pure
  · refine NP.mk (by omega) ?_
    exact ⟨rfl, rfl⟩
  apply NDr.pure
  · exact ⟨rfl, rfl⟩
  apply NDr.efw [0]
  · exact ⟨rfl, rfl⟩
  · repeat (first | exact trivial | refine ⟨by first | trivial | rfl, ?_⟩)
  refine NP.mk (by kernel_rfl) ?_
  rw [e1, e2]
  have hf3 : (f0.take 3000).length ≤ 3000 := by simp; omega
  have hl3 : (l0.take 3000).length ≤ 3000 := by simp; omega
  clear e1 e2
  generalize f0.take 3000 = f at *
  generalize l0.take 3000 = l at *
  have h1 := diskCrash_walk f l a (by omega)
  have hx : (f ++ l.take a.toNat).length ≤ 6000 := by simp; omega
  have h2 := diskCrash_walk (f ++ l.take a.toNat) [] b (by simp at hx ⊢; omega)
  have h3 := same5_walk (f ++ l.take a.toNat) [] (f ++ l.take a.toNat) [] (by simp at hx ⊢; omega)
  have h4 := diskSync_walk f l (by omega)
  have h5 := diskCrash_walk (f ++ l) [] a (by simp; omega)
  have h6 := same5_walk (f ++ l) [] (f ++ l) [] (by simp; omega)
  have h7 := diskAll_walk (f ++ l.take a.toNat) [] (by simp at hx ⊢; omega)
  rw [List.take_nil, List.append_nil] at h2 h5
  rw [List.append_nil] at h7
  rw [decide_eq_true rfl, decide_eq_true rfl] at h3 h6
  refine NCall.call (h1) rfl rfl ?_
  refine NP.mk (by kernel_rfl) ?_
  apply NDr.rd [1]
  · intro fH TH
    exact ⟨rfl, rfl⟩
  apply NDr.pure
  · exact ⟨rfl, rfl⟩
  apply NDr.pure
  · refine NCall.call (h2) rfl rfl ?_
    exact ⟨rfl, rfl⟩
  apply NDr.rd [1]
  · intro fH TH
    exact ⟨rfl, rfl⟩
  apply NDr.pure
  · refine NCall.call (h3) rfl rfl ?_
    exact ⟨rfl, rfl⟩
  apply NDr.pure
  · exact ⟨rfl, rfl⟩
  apply NDr.rd [0]
  · intro fH TH
    exact ⟨rfl, rfl⟩
  apply NDr.pure
  · refine NCall.call (h4) rfl rfl ?_
    exact ⟨rfl, rfl⟩
  apply NDr.pure
  · exact ⟨rfl, rfl⟩
  apply NDr.pure
  · refine NCall.call (h5) rfl rfl ?_
    exact ⟨rfl, rfl⟩
  apply NDr.rd [0]
  · intro fH TH
    exact ⟨rfl, rfl⟩
  apply NDr.pure
  · refine NCall.call (h4) rfl rfl ?_
    exact ⟨rfl, rfl⟩
  apply NDr.pure
  · refine NCall.call (h6) rfl rfl ?_
    exact ⟨rfl, rfl⟩
  apply NDr.pure
  · exact ⟨rfl, rfl⟩
  apply NDr.pure
  · exact ⟨rfl, rfl⟩
  apply NDr.rd [1]
  · intro fH TH
    exact ⟨rfl, rfl⟩
  apply NDr.pure
  · refine NCall.call (h7) rfl rfl ?_
    exact ⟨rfl, rfl⟩
  apply NDr.pure
  · exact ⟨rfl, rfl⟩
  apply NDr.rd [0]
  · intro fH TH
    exact ⟨rfl, rfl⟩
  apply NDr.rd [0]
  · intro fH TH
    exact ⟨rfl, rfl⟩
  apply NDr.pure
  · exact ⟨rfl, rfl⟩
  apply NDr.pure
  · refine NB.dec (fun h1 => ?_) (fun h1 => ?_)
    rotate_left
    · exact absurd (by (simp only [List.length_map, List.length_append, List.length_replicate, List.length_cons, List.length_nil, List.length_take, List.length_drop]; omega)) h1
    exact ⟨rfl, rfl⟩
  apply NDr.pure
  · exact ⟨rfl, rfl⟩
  apply NDr.pure
  · exact ⟨rfl, rfl⟩
  refine NP.mk (by kernel_rfl) ?_
  exact NRet.mk [] rfl ⟨.refl _, rfl⟩

end Go.Bv
