/- Part of the lift: an abstract walk of the program's code, proved sound, and what it shows of this program. -/
import Derived.Test.YtojiaifdpaofdaaSvDisk5
namespace Go.Bv
set_option linter.unusedSimpArgs false
set_option linter.unusedVariables false
open Go Go.Proofs

theorem copy5_list (f l : List UInt8) (hb : f.length + l.length ≤ 2 ^ 45) : ACalls Try.prog Nm.ref05_Copy [diskA f l] [] (diskA f l) [] :=
  (copy5_walk f l hb).drop (.val (.agg (.cons (.own trivial rfl (by simp) (by simp) (by simp [List.take_of_length_le])) (.cons (.own trivial rfl (by simp) (by simp) (by simp [List.take_of_length_le])) .nil))) rfl (fun _ => by simp) (fun _ => by simp [diskA]))

theorem diskFull_walk (x y z : Int) : ACalls Try.prog Nm.law05_DiskFull [i64 x, i64 y, i64 z] [] (.bool true) [] := by
  refine ACalls_of tab (dr_snd tab mixed) Nm.law05_DiskFull_h rfl (by kernel_rfl) (Nat.le_of_ble_eq_true rfl) rfl ?_
  refine NCall.call (diskAwake_walk) rfl rfl ?_
  refine NB.dec (fun h1 => ?_) (fun h1 => ?_)
  · exact NRet.mk [] rfl ⟨.refl _, rfl⟩
  refine NB.dec (fun h2 => ?_) (fun h2 => ?_)
  · exact NRet.mk [] rfl ⟨.refl _, rfl⟩
  refine NB.dec (fun h3 => ?_) (fun h3 => ?_)
  · exact NRet.mk [] rfl ⟨.refl _, rfl⟩
  refine NB.dec (fun h4 => ?_) (fun h4 => ?_)
  · exact NRet.mk [] rfl ⟨.refl _, rfl⟩
  refine NW.i64 (by omega) (by omega) ?_
  refine NB.dec (fun h5 => ?_) (fun h5 => ?_)
  · exact NRet.mk [] rfl ⟨.refl _, rfl⟩
  refine NB.dec (fun h6 => ?_) (fun h6 => ?_)
  · exact NRet.mk [] rfl ⟨.refl _, rfl⟩
  refine NP.mk (by kernel_rfl) ?_
  apply NDr.pure
  · exact ⟨rfl, rfl⟩
  apply NDr.pure
  · refine NP.mk (by omega) ?_
    refine NMk.lst ?_
    exact ⟨rfl, rfl⟩
  apply NDr.pure
  · exact ⟨rfl, rfl⟩
  apply NDr.pure
  · refine NP.mk (by omega) ?_
    refine NMk.lst ?_
    exact ⟨rfl, rfl⟩
  apply NDr.pure
  · exact ⟨rfl, rfl⟩
  apply NDr.efw []
  · exact ⟨rfl, rfl⟩
  · repeat (first | exact trivial | refine ⟨by first | trivial | rfl, ?_⟩)
  apply NDr.efw [0]
  · exact ⟨rfl, rfl⟩
  · repeat (first | exact trivial | refine ⟨by first | trivial | rfl, ?_⟩)
  refine NP.mk (by kernel_rfl) ?_
  refine NP.mk (by kernel_rfl) ?_
  apply NDr.rd [0]
  · intro fH TH
    exact ⟨rfl, rfl⟩
  apply NDr.pure
  · exact ⟨rfl, rfl⟩
  apply NDr.pure
  · refine NP.mk (by omega) ?_
    refine NMk.lst ?_
    exact ⟨rfl, rfl⟩
  have hw := diskWrite_walk (List.replicate x.toNat 0) (List.replicate y.toNat 0) (List.replicate z.toNat 0) (by simp only [List.length_replicate]; omega)
  by_cases hc : x + y + z ≤ 4194304
  · rw [if_pos (by simp only [List.length_replicate]; omega)] at hw
    simp only [diskA, bytes, List.map_replicate, List.map_append] at hw
    apply NDr.pure
    · refine NCall.call (hw) rfl rfl ?_
      exact ⟨rfl, rfl⟩
    apply NDr.pure
    · exact ⟨rfl, rfl⟩
    apply NDr.pure
    · exact ⟨rfl, rfl⟩
    apply NDr.pure
    · exact ⟨rfl, rfl⟩
    apply NDr.efw []
    · exact ⟨rfl, rfl⟩
    · repeat (first | exact trivial | refine ⟨by first | trivial | rfl, ?_⟩)
    apply NDr.efw [1]
    · exact ⟨rfl, rfl⟩
    · repeat (first | exact trivial | refine ⟨by first | trivial | rfl, ?_⟩)
    apply NDr.pure
    · exact ⟨rfl, rfl⟩
    refine NP.mk (by kernel_rfl) ?_
    refine NW.i64 (by omega) (by omega) ?_
    refine NW.i64 (by omega) (by omega) ?_
    refine NB.dec (fun h1 => ?_) (fun h1 => ?_)
    · exact absurd h1 (by omega)
    refine NB.dec (fun h2 => ?_) (fun h2 => ?_)
    rotate_left
    · exact absurd (by (simp only [List.length_map, List.length_append, List.length_replicate, List.length_cons, List.length_nil, List.length_take, List.length_drop]; omega)) h2
    refine NW.i64 (by omega) (by omega) ?_
    refine NB.dec (fun h3 => ?_) (fun h3 => ?_)
    rotate_left
    · exact absurd (by (simp only [List.length_map, List.length_append, List.length_replicate, List.length_cons, List.length_nil, List.length_take, List.length_drop]; omega)) h3
    exact NRet.mk [] rfl ⟨.refl _, rfl⟩
  · rw [if_neg (by simp only [List.length_replicate]; omega)] at hw
    simp only [diskA, bytes, List.map_replicate, List.map_append] at hw
    apply NDr.pure
    · refine NCall.call (hw) rfl rfl ?_
      exact ⟨rfl, rfl⟩
    apply NDr.pure
    · exact ⟨rfl, rfl⟩
    apply NDr.pure
    · exact ⟨rfl, rfl⟩
    apply NDr.pure
    · exact ⟨rfl, rfl⟩
    apply NDr.efw []
    · exact ⟨rfl, rfl⟩
    · repeat (first | exact trivial | refine ⟨by first | trivial | rfl, ?_⟩)
    apply NDr.efw [1]
    · exact ⟨rfl, rfl⟩
    · repeat (first | exact trivial | refine ⟨by first | trivial | rfl, ?_⟩)
    apply NDr.pure
    · exact ⟨rfl, rfl⟩
    refine NP.mk (by kernel_rfl) ?_
    refine NW.i64 (by omega) (by omega) ?_
    refine NW.i64 (by omega) (by omega) ?_
    refine NB.dec (fun h1 => ?_) (fun h1 => ?_)
    rotate_left
    · exact absurd (by omega) h1
    refine NW.i64 (by (simp only [List.length_map, List.length_append, List.length_replicate, List.length_cons, List.length_nil, List.length_take, List.length_drop]; omega)) (by (simp only [List.length_map, List.length_append, List.length_replicate, List.length_cons, List.length_nil, List.length_take, List.length_drop]; omega)) ?_
    exact NRet.mk [] rfl ⟨.refl _, rfl⟩

set_option maxHeartbeats 4000000 in
theorem diskAllLaw_walk (f0 l0 b0 : List UInt8) (k n : Int) (hf : f0.length ≤ reachBytes) (hl : l0.length ≤ reachBytes) (hb : b0.length ≤ reachBytes) : ACalls Try.prog Nm.law05_DiskAll [diskA f0 l0, bytes b0, i64 k, i64 n] [] (.bool true) [] := by
  have hf := reach_lt hf
  have hl := reach_lt hl
  have hb := reach_lt hb
  refine ACalls_of tab (dr_snd tab mixed) Nm.law05_DiskAll_h rfl (by kernel_rfl) (Nat.le_of_ble_eq_true rfl) rfl ?_
  have e1 : (f0.map u8).take (Int.toNat (min ((f0.map u8).length : Int) 3000)) = (f0.take 3000).map u8 := cut_map u8 f0 3000
  have e2 : (l0.map u8).take (Int.toNat (min ((l0.map u8).length : Int) 3000)) = (l0.take 3000).map u8 := cut_map u8 l0 3000
  have e3 : (b0.map u8).take (Int.toNat (min ((b0.map u8).length : Int) 3000)) = (b0.take 3000).map u8 := cut_map u8 b0 3000
  refine NCall.call (diskAwake_walk) rfl rfl ?_
  refine NP.mk (by kernel_rfl) ?_
  apply NDr.rd [0]
  · intro fH TH
    exact ⟨rfl, rfl⟩
  apply NDr.rd [0]
  · intro fH TH
    exact ⟨rfl, rfl⟩
  apply NDr.rd [0]
  · intro fH TH
    exact ⟨rfl, rfl⟩
  apply NDr.rd [0]
  · intro fH TH
    exact ⟨rfl, rfl⟩
  apply NDr.pure
  · exact ⟨rfl, rfl⟩
  apply NDr.pure
  · exact ⟨rfl, rfl⟩
  apply NDr.pure
  · refine NP.mk (by omega) ?_
    exact ⟨rfl, rfl⟩
  apply NDr.rd [0]
  · intro fH TH
    exact ⟨rfl, rfl⟩
  apply NDr.rd [0]
  · intro fH TH
    exact ⟨rfl, rfl⟩
  apply NDr.rd [0]
  · intro fH TH
    exact ⟨rfl, rfl⟩
  apply NDr.rd [0]
  · intro fH TH
    exact ⟨rfl, rfl⟩
  apply NDr.pure
  · exact ⟨rfl, rfl⟩
  apply NDr.pure
  · exact ⟨rfl, rfl⟩
  apply NDr.pure
  · refine NP.mk (by omega) ?_
    exact ⟨rfl, rfl⟩
  apply NDr.pure
  · exact ⟨rfl, rfl⟩
  apply NDr.efw [0]
  · exact ⟨rfl, rfl⟩
  · repeat (first | exact trivial | refine ⟨by first | trivial | rfl, ?_⟩)
  refine NP.mk (by kernel_rfl) ?_
  refine NP.mk (by omega) ?_
  rw [e1, e2, e3]
  have hf3 : (f0.take 3000).length ≤ 3000 := by simp; omega
  have hl3 : (l0.take 3000).length ≤ 3000 := by simp; omega
  have hb3 : (b0.take 3000).length ≤ 3000 := by simp; omega
  clear e1 e2 e3 hf hl hb
  generalize f0.take 3000 = f at *
  generalize l0.take 3000 = l at *
  generalize b0.take 3000 = b at *
  have h1 := copy5_list f l (by omega)
  have h2 := diskWrite_walk f l b (by omega)
  have h3 := write5_walk f l b (by omega)
  rw [if_pos (by omega)] at h2 h3
  have h4 := same5_walk f (l ++ b) f (l ++ b) (by simp; omega)
  have h5 := diskCrash_walk f l k (by omega)
  have h6 := crash5_walk f l k (by omega)
  have hx : (f ++ l.take k.toNat).length ≤ 6000 := by simp; omega
  have h7 := same5_walk (f ++ l.take k.toNat) [] (f ++ l.take k.toNat) [] (by simp at hx ⊢; omega)
  have h8 := diskSync_walk f l (by omega)
  have h9 := Size5_walk f l (by omega)
  have h10 := first5_walk f l (f.length + l.length) (by omega) (by omega)
  rw [List.take_of_length_le (by simp)] at h10
  have h11 := same5_walk (f ++ l) [] (f ++ l) [] (by simp; omega)
  rw [decide_eq_true rfl, decide_eq_true rfl] at h4 h7 h11
  have hcut := cut_walk f l n (by omega)
  have h13 := diskAll_walk f l (by omega)
  have h14 := copyB_walk f (by omega)
  have h15 := sameB_self (f ++ l) (by simp; omega)
  have h16 := same5_walk f l f l (by omega)
  have h17 : ACalls Try.prog Nm.ref05_Same [diskA [] [], .agg [.nils, .nils]] [] (.bool true) [] :=
    (same5_walk [] [] [] [] (by simp)).args (.cons (.refl _) (.cons (.agg (.cons (.nils .leaf) (.cons (.nils .leaf) .nil))) .nil))
  rw [decide_eq_true rfl, decide_eq_true rfl] at h16
  by_cases hc : n < 0 ∨ ((f.length + l.length : Nat) : Int) < n
  · rw [if_pos hc] at hcut
    refine NCall.call (h1) rfl rfl ?_
    refine NCall.call (h2) rfl rfl ?_
    refine NCall.call (h3) rfl rfl ?_
    refine NP.mk (by kernel_rfl) ?_
    apply NDr.pure
    · exact ⟨rfl, rfl⟩
    apply NDr.pure
    · exact ⟨rfl, rfl⟩
    apply NDr.pure
    · exact ⟨rfl, rfl⟩
    apply NDr.pure
    · exact ⟨rfl, rfl⟩
    apply NDr.rd [2]
    · intro fH TH
      exact ⟨rfl, rfl⟩
    apply NDr.rd [3]
    · intro fH TH
      exact ⟨rfl, rfl⟩
    apply NDr.pure
    · refine NCall.call (h4) rfl rfl ?_
      exact ⟨rfl, rfl⟩
    apply NDr.pure
    · exact ⟨rfl, rfl⟩
    apply NDr.pure
    · exact ⟨rfl, rfl⟩
    apply NDr.pure
    · exact ⟨rfl, rfl⟩
    apply NDr.rd [1]
    · intro fH TH
      exact ⟨rfl, rfl⟩
    apply NDr.pure
    · exact ⟨rfl, rfl⟩
    apply NDr.pure
    · refine NCall.call (h5) rfl rfl ?_
      exact ⟨rfl, rfl⟩
    apply NDr.rd [0]
    · intro fH TH
      exact ⟨rfl, rfl⟩
    apply NDr.pure
    · exact ⟨rfl, rfl⟩
    apply NDr.pure
    · refine NCall.call (h6) rfl rfl ?_
      exact ⟨rfl, rfl⟩
    apply NDr.pure
    · refine NCall.call (h7) rfl rfl ?_
      exact ⟨rfl, rfl⟩
    apply NDr.pure
    · exact ⟨rfl, rfl⟩
    apply NDr.pure
    · exact ⟨rfl, rfl⟩
    apply NDr.pure
    · exact ⟨rfl, rfl⟩
    apply NDr.rd [1]
    · intro fH TH
      exact ⟨rfl, rfl⟩
    apply NDr.pure
    · refine NCall.call (h8) rfl rfl ?_
      exact ⟨rfl, rfl⟩
    apply NDr.rd [0]
    · intro fH TH
      exact ⟨rfl, rfl⟩
    apply NDr.rd [0]
    · intro fH TH
      exact ⟨rfl, rfl⟩
    apply NDr.pure
    · refine NCall.call (h9) rfl rfl ?_
      exact ⟨rfl, rfl⟩
    apply NDr.pure
    · refine NCall.call (h10) rfl rfl ?_
      exact ⟨rfl, rfl⟩
    apply NDr.pure
    · refine NCall.call (h11) rfl rfl ?_
      exact ⟨rfl, rfl⟩
    apply NDr.pure
    · exact ⟨rfl, rfl⟩
    apply NDr.pure
    · exact ⟨rfl, rfl⟩
    refine NP.mk (by kernel_rfl) ?_
    refine NCall.call (hcut) rfl rfl ?_
    refine NB.dec (fun h1 => ?_) (fun h1 => ?_)
    · refine NCall.call (h17) rfl rfl ?_
      refine NP.mk (by kernel_rfl) ?_
      apply NDr.rd [1]
      · intro fH TH
        exact ⟨rfl, rfl⟩
      apply NDr.pure
      · refine NCall.call (h13) rfl rfl ?_
        exact ⟨rfl, rfl⟩
      apply NDr.rd [0]
      · intro fH TH
        exact ⟨rfl, rfl⟩
      apply NDr.rd [0]
      · intro fH TH
        exact ⟨rfl, rfl⟩
      apply NDr.efw []
      · refine NCall.atN (ACalls.frame (h14) rfl _) (by (try dsimp only [List.length_cons, List.length_nil, List.cons_append, List.nil_append, List.set_cons_zero, List.set_cons_succ, List.map_cons, List.map_nil, List.replicate_succ, List.replicate_zero, List.take_succ_cons, List.take_zero, List.drop_succ_cons, List.drop_zero, Blk.shift, killAll, AV.shT, AV.shA, AV.shR, AV.sh1]) <;> exact rfl) (by (try dsimp only [List.length_cons, List.length_nil, List.cons_append, List.nil_append, List.set_cons_zero, List.set_cons_succ, List.map_cons, List.map_nil, List.replicate_succ, List.replicate_zero, List.take_succ_cons, List.take_zero, List.drop_succ_cons, List.drop_zero, Blk.shift, killAll, AV.shT, AV.shA, AV.shR, AV.sh1]) <;> exact rfl) ?_
        exact ⟨rfl, rfl⟩
      · repeat (first | exact trivial | refine ⟨by first | trivial | rfl, ?_⟩)
      apply NDr.rd [0]
      · intro fH TH
        exact ⟨rfl, rfl⟩
      apply NDr.rd [0]
      · intro fH TH
        exact ⟨rfl, rfl⟩
      apply NDr.efw [4]
      · refine NFz.own ?_
        refine NApp.enddN rfl (by simp only [List.length_map, List.length_append, List.length_replicate, List.length_cons, List.length_nil, List.length_take, List.length_drop]) (by simp only [List.length_map, List.length_append, List.length_replicate, List.length_cons, List.length_nil, List.length_take, List.length_drop]; omega) (by (try dsimp only [List.length_cons, List.length_nil, List.cons_append, List.nil_append, List.set_cons_zero, List.set_cons_succ, List.map_cons, List.map_nil, List.replicate_succ, List.replicate_zero, List.take_succ_cons, List.take_zero, List.drop_succ_cons, List.drop_zero, Blk.shift, killAll, AV.shT, AV.shA, AV.shR, AV.sh1]) <;> exact rfl) (by (try dsimp only [List.length_cons, List.length_nil, List.cons_append, List.nil_append, List.set_cons_zero, List.set_cons_succ, List.map_cons, List.map_nil, List.replicate_succ, List.replicate_zero, List.take_succ_cons, List.take_zero, List.drop_succ_cons, List.drop_zero, Blk.shift, killAll, AV.shT, AV.shA, AV.shR, AV.sh1]) <;> exact rfl) (by (try dsimp only [List.length_cons, List.length_nil, List.cons_append, List.nil_append, List.set_cons_zero, List.set_cons_succ, List.map_cons, List.map_nil, List.replicate_succ, List.replicate_zero, List.take_succ_cons, List.take_zero, List.drop_succ_cons, List.drop_zero, Blk.shift, killAll, AV.shT, AV.shA, AV.shR, AV.sh1]) <;> exact rfl) (by (try dsimp only [List.length_cons, List.length_nil, List.cons_append, List.nil_append, List.set_cons_zero, List.set_cons_succ, List.map_cons, List.map_nil, List.replicate_succ, List.replicate_zero, List.take_succ_cons, List.take_zero, List.drop_succ_cons, List.drop_zero, Blk.shift, killAll, AV.shT, AV.shA, AV.shR, AV.sh1]) <;> exact rfl) ?_
        exact ⟨rfl, rfl⟩
      · repeat (first | exact trivial | refine ⟨by first | trivial | rfl, ?_⟩)
      apply NDr.efw [5]
      · refine NCall.eq (by (try simp only [List.length_map]) <;> exact rfl) ?_
        refine NCall.lend (h15) (.cons (.same _) (.cons (.own trivial rfl (by simp) (by simp) (by simp [List.take_of_length_le])) .nil)) rfl rfl ?_
        exact ⟨rfl, rfl⟩
      · repeat (first | exact trivial | refine ⟨by first | trivial | rfl, ?_⟩)
      apply NDr.pure
      · exact ⟨rfl, rfl⟩
      apply NDr.rd [1]
      · intro fH TH
        exact ⟨rfl, rfl⟩
      apply NDr.rd [0]
      · intro fH TH
        exact ⟨rfl, rfl⟩
      apply NDr.pure
      · refine NCall.call (h16) rfl rfl ?_
        exact ⟨rfl, rfl⟩
      apply NDr.pure
      · exact ⟨rfl, rfl⟩
      apply NDr.pure
      · exact ⟨rfl, rfl⟩
      refine NP.mk (by kernel_rfl) ?_
      exact NRet.mk [] rfl ⟨.refl _, rfl⟩
    refine NCall.call (h9) rfl rfl ?_
    refine NB.dec (fun h2 => ?_) (fun h2 => ?_)
    rotate_left
    · exact absurd (by omega) h2
    refine NCall.call (h17) rfl rfl ?_
    refine NP.mk (by kernel_rfl) ?_
    apply NDr.rd [1]
    · intro fH TH
      exact ⟨rfl, rfl⟩
    apply NDr.pure
    · refine NCall.call (h13) rfl rfl ?_
      exact ⟨rfl, rfl⟩
    apply NDr.rd [0]
    · intro fH TH
      exact ⟨rfl, rfl⟩
    apply NDr.rd [0]
    · intro fH TH
      exact ⟨rfl, rfl⟩
    apply NDr.efw []
    · refine NCall.atN (ACalls.frame (h14) rfl _) (by (try dsimp only [List.length_cons, List.length_nil, List.cons_append, List.nil_append, List.set_cons_zero, List.set_cons_succ, List.map_cons, List.map_nil, List.replicate_succ, List.replicate_zero, List.take_succ_cons, List.take_zero, List.drop_succ_cons, List.drop_zero, Blk.shift, killAll, AV.shT, AV.shA, AV.shR, AV.sh1]) <;> exact rfl) (by (try dsimp only [List.length_cons, List.length_nil, List.cons_append, List.nil_append, List.set_cons_zero, List.set_cons_succ, List.map_cons, List.map_nil, List.replicate_succ, List.replicate_zero, List.take_succ_cons, List.take_zero, List.drop_succ_cons, List.drop_zero, Blk.shift, killAll, AV.shT, AV.shA, AV.shR, AV.sh1]) <;> exact rfl) ?_
      exact ⟨rfl, rfl⟩
    · repeat (first | exact trivial | refine ⟨by first | trivial | rfl, ?_⟩)
    apply NDr.rd [0]
    · intro fH TH
      exact ⟨rfl, rfl⟩
    apply NDr.rd [0]
    · intro fH TH
      exact ⟨rfl, rfl⟩
    apply NDr.efw [4]
    · refine NFz.own ?_
      refine NApp.enddN rfl (by simp only [List.length_map, List.length_append, List.length_replicate, List.length_cons, List.length_nil, List.length_take, List.length_drop]) (by simp only [List.length_map, List.length_append, List.length_replicate, List.length_cons, List.length_nil, List.length_take, List.length_drop]; omega) (by (try dsimp only [List.length_cons, List.length_nil, List.cons_append, List.nil_append, List.set_cons_zero, List.set_cons_succ, List.map_cons, List.map_nil, List.replicate_succ, List.replicate_zero, List.take_succ_cons, List.take_zero, List.drop_succ_cons, List.drop_zero, Blk.shift, killAll, AV.shT, AV.shA, AV.shR, AV.sh1]) <;> exact rfl) (by (try dsimp only [List.length_cons, List.length_nil, List.cons_append, List.nil_append, List.set_cons_zero, List.set_cons_succ, List.map_cons, List.map_nil, List.replicate_succ, List.replicate_zero, List.take_succ_cons, List.take_zero, List.drop_succ_cons, List.drop_zero, Blk.shift, killAll, AV.shT, AV.shA, AV.shR, AV.sh1]) <;> exact rfl) (by (try dsimp only [List.length_cons, List.length_nil, List.cons_append, List.nil_append, List.set_cons_zero, List.set_cons_succ, List.map_cons, List.map_nil, List.replicate_succ, List.replicate_zero, List.take_succ_cons, List.take_zero, List.drop_succ_cons, List.drop_zero, Blk.shift, killAll, AV.shT, AV.shA, AV.shR, AV.sh1]) <;> exact rfl) (by (try dsimp only [List.length_cons, List.length_nil, List.cons_append, List.nil_append, List.set_cons_zero, List.set_cons_succ, List.map_cons, List.map_nil, List.replicate_succ, List.replicate_zero, List.take_succ_cons, List.take_zero, List.drop_succ_cons, List.drop_zero, Blk.shift, killAll, AV.shT, AV.shA, AV.shR, AV.sh1]) <;> exact rfl) ?_
      exact ⟨rfl, rfl⟩
    · repeat (first | exact trivial | refine ⟨by first | trivial | rfl, ?_⟩)
    apply NDr.efw [5]
    · refine NCall.eq (by (try simp only [List.length_map]) <;> exact rfl) ?_
      refine NCall.lend (h15) (.cons (.same _) (.cons (.own trivial rfl (by simp) (by simp) (by simp [List.take_of_length_le])) .nil)) rfl rfl ?_
      exact ⟨rfl, rfl⟩
    · repeat (first | exact trivial | refine ⟨by first | trivial | rfl, ?_⟩)
    apply NDr.pure
    · exact ⟨rfl, rfl⟩
    apply NDr.rd [1]
    · intro fH TH
      exact ⟨rfl, rfl⟩
    apply NDr.rd [0]
    · intro fH TH
      exact ⟨rfl, rfl⟩
    apply NDr.pure
    · refine NCall.call (h16) rfl rfl ?_
      exact ⟨rfl, rfl⟩
    apply NDr.pure
    · exact ⟨rfl, rfl⟩
    apply NDr.pure
    · exact ⟨rfl, rfl⟩
    refine NP.mk (by kernel_rfl) ?_
    exact NRet.mk [] rfl ⟨.refl _, rfl⟩
  · rw [if_neg hc] at hcut
    obtain ⟨j, rfl⟩ : ∃ j : Nat, n = j := ⟨n.toNat, by omega⟩
    have h18 := first5_walk f l j (by omega) (by omega)
    have hy : ((f ++ l).take j).length ≤ 6000 := by simp; omega
    have h19 := same5_walk ((f ++ l).take j) [] ((f ++ l).take j) [] (by simp at hy ⊢; omega)
    rw [decide_eq_true rfl, decide_eq_true rfl] at h19
    refine NCall.call (h1) rfl rfl ?_
    refine NCall.call (h2) rfl rfl ?_
    refine NCall.call (h3) rfl rfl ?_
    refine NP.mk (by kernel_rfl) ?_
    apply NDr.pure
    · exact ⟨rfl, rfl⟩
    apply NDr.pure
    · exact ⟨rfl, rfl⟩
    apply NDr.pure
    · exact ⟨rfl, rfl⟩
    apply NDr.pure
    · exact ⟨rfl, rfl⟩
    apply NDr.rd [2]
    · intro fH TH
      exact ⟨rfl, rfl⟩
    apply NDr.rd [3]
    · intro fH TH
      exact ⟨rfl, rfl⟩
    apply NDr.pure
    · refine NCall.call (h4) rfl rfl ?_
      exact ⟨rfl, rfl⟩
    apply NDr.pure
    · exact ⟨rfl, rfl⟩
    apply NDr.pure
    · exact ⟨rfl, rfl⟩
    apply NDr.pure
    · exact ⟨rfl, rfl⟩
    apply NDr.rd [1]
    · intro fH TH
      exact ⟨rfl, rfl⟩
    apply NDr.pure
    · exact ⟨rfl, rfl⟩
    apply NDr.pure
    · refine NCall.call (h5) rfl rfl ?_
      exact ⟨rfl, rfl⟩
    apply NDr.rd [0]
    · intro fH TH
      exact ⟨rfl, rfl⟩
    apply NDr.pure
    · exact ⟨rfl, rfl⟩
    apply NDr.pure
    · refine NCall.call (h6) rfl rfl ?_
      exact ⟨rfl, rfl⟩
    apply NDr.pure
    · refine NCall.call (h7) rfl rfl ?_
      exact ⟨rfl, rfl⟩
    apply NDr.pure
    · exact ⟨rfl, rfl⟩
    apply NDr.pure
    · exact ⟨rfl, rfl⟩
    apply NDr.pure
    · exact ⟨rfl, rfl⟩
    apply NDr.rd [1]
    · intro fH TH
      exact ⟨rfl, rfl⟩
    apply NDr.pure
    · refine NCall.call (h8) rfl rfl ?_
      exact ⟨rfl, rfl⟩
    apply NDr.rd [0]
    · intro fH TH
      exact ⟨rfl, rfl⟩
    apply NDr.rd [0]
    · intro fH TH
      exact ⟨rfl, rfl⟩
    apply NDr.pure
    · refine NCall.call (h9) rfl rfl ?_
      exact ⟨rfl, rfl⟩
    apply NDr.pure
    · refine NCall.call (h10) rfl rfl ?_
      exact ⟨rfl, rfl⟩
    apply NDr.pure
    · refine NCall.call (h11) rfl rfl ?_
      exact ⟨rfl, rfl⟩
    apply NDr.pure
    · exact ⟨rfl, rfl⟩
    apply NDr.pure
    · exact ⟨rfl, rfl⟩
    refine NP.mk (by kernel_rfl) ?_
    refine NCall.call (hcut) rfl rfl ?_
    refine NCall.call (h9) rfl rfl ?_
    refine NB.dec (fun h1 => ?_) (fun h1 => ?_)
    · exact absurd h1 (by omega)
    refine NP.mk (by kernel_rfl) ?_
    apply NDr.pure
    · exact ⟨rfl, rfl⟩
    apply NDr.pure
    · exact ⟨rfl, rfl⟩
    apply NDr.pure
    · exact ⟨rfl, rfl⟩
    apply NDr.rd [2]
    · intro fH TH
      exact ⟨rfl, rfl⟩
    apply NDr.rd [0]
    · intro fH TH
      exact ⟨rfl, rfl⟩
    apply NDr.pure
    · exact ⟨rfl, rfl⟩
    apply NDr.pure
    · refine NCall.call (h18) rfl rfl ?_
      exact ⟨rfl, rfl⟩
    apply NDr.pure
    · refine NCall.call (h19) rfl rfl ?_
      exact ⟨rfl, rfl⟩
    apply NDr.pure
    · exact ⟨rfl, rfl⟩
    apply NDr.pure
    · exact ⟨rfl, rfl⟩
    refine NP.mk (by kernel_rfl) ?_
    refine NP.mk (by kernel_rfl) ?_
    apply NDr.rd [1]
    · intro fH TH
      exact ⟨rfl, rfl⟩
    apply NDr.pure
    · refine NCall.call (h13) rfl rfl ?_
      exact ⟨rfl, rfl⟩
    apply NDr.rd [0]
    · intro fH TH
      exact ⟨rfl, rfl⟩
    apply NDr.rd [0]
    · intro fH TH
      exact ⟨rfl, rfl⟩
    apply NDr.efw []
    · refine NCall.atN (ACalls.frame (h14) rfl _) (by (try dsimp only [List.length_cons, List.length_nil, List.cons_append, List.nil_append, List.set_cons_zero, List.set_cons_succ, List.map_cons, List.map_nil, List.replicate_succ, List.replicate_zero, List.take_succ_cons, List.take_zero, List.drop_succ_cons, List.drop_zero, Blk.shift, killAll, AV.shT, AV.shA, AV.shR, AV.sh1]) <;> exact rfl) (by (try dsimp only [List.length_cons, List.length_nil, List.cons_append, List.nil_append, List.set_cons_zero, List.set_cons_succ, List.map_cons, List.map_nil, List.replicate_succ, List.replicate_zero, List.take_succ_cons, List.take_zero, List.drop_succ_cons, List.drop_zero, Blk.shift, killAll, AV.shT, AV.shA, AV.shR, AV.sh1]) <;> exact rfl) ?_
      exact ⟨rfl, rfl⟩
    · repeat (first | exact trivial | refine ⟨by first | trivial | rfl, ?_⟩)
    apply NDr.rd [0]
    · intro fH TH
      exact ⟨rfl, rfl⟩
    apply NDr.rd [0]
    · intro fH TH
      exact ⟨rfl, rfl⟩
    apply NDr.efw [4]
    · refine NFz.own ?_
      refine NApp.enddN rfl (by simp only [List.length_map, List.length_append, List.length_replicate, List.length_cons, List.length_nil, List.length_take, List.length_drop]) (by simp only [List.length_map, List.length_append, List.length_replicate, List.length_cons, List.length_nil, List.length_take, List.length_drop]; omega) (by (try dsimp only [List.length_cons, List.length_nil, List.cons_append, List.nil_append, List.set_cons_zero, List.set_cons_succ, List.map_cons, List.map_nil, List.replicate_succ, List.replicate_zero, List.take_succ_cons, List.take_zero, List.drop_succ_cons, List.drop_zero, Blk.shift, killAll, AV.shT, AV.shA, AV.shR, AV.sh1]) <;> exact rfl) (by (try dsimp only [List.length_cons, List.length_nil, List.cons_append, List.nil_append, List.set_cons_zero, List.set_cons_succ, List.map_cons, List.map_nil, List.replicate_succ, List.replicate_zero, List.take_succ_cons, List.take_zero, List.drop_succ_cons, List.drop_zero, Blk.shift, killAll, AV.shT, AV.shA, AV.shR, AV.sh1]) <;> exact rfl) (by (try dsimp only [List.length_cons, List.length_nil, List.cons_append, List.nil_append, List.set_cons_zero, List.set_cons_succ, List.map_cons, List.map_nil, List.replicate_succ, List.replicate_zero, List.take_succ_cons, List.take_zero, List.drop_succ_cons, List.drop_zero, Blk.shift, killAll, AV.shT, AV.shA, AV.shR, AV.sh1]) <;> exact rfl) (by (try dsimp only [List.length_cons, List.length_nil, List.cons_append, List.nil_append, List.set_cons_zero, List.set_cons_succ, List.map_cons, List.map_nil, List.replicate_succ, List.replicate_zero, List.take_succ_cons, List.take_zero, List.drop_succ_cons, List.drop_zero, Blk.shift, killAll, AV.shT, AV.shA, AV.shR, AV.sh1]) <;> exact rfl) ?_
      exact ⟨rfl, rfl⟩
    · repeat (first | exact trivial | refine ⟨by first | trivial | rfl, ?_⟩)
    apply NDr.efw [5]
    · refine NCall.eq (by (try simp only [List.length_map]) <;> exact rfl) ?_
      refine NCall.lend (h15) (.cons (.same _) (.cons (.own trivial rfl (by simp) (by simp) (by simp [List.take_of_length_le])) .nil)) rfl rfl ?_
      exact ⟨rfl, rfl⟩
    · repeat (first | exact trivial | refine ⟨by first | trivial | rfl, ?_⟩)
    apply NDr.pure
    · exact ⟨rfl, rfl⟩
    apply NDr.rd [1]
    · intro fH TH
      exact ⟨rfl, rfl⟩
    apply NDr.rd [0]
    · intro fH TH
      exact ⟨rfl, rfl⟩
    apply NDr.pure
    · refine NCall.call (h16) rfl rfl ?_
      exact ⟨rfl, rfl⟩
    apply NDr.pure
    · exact ⟨rfl, rfl⟩
    apply NDr.pure
    · exact ⟨rfl, rfl⟩
    refine NP.mk (by kernel_rfl) ?_
    exact NRet.mk [] rfl ⟨.refl _, rfl⟩

end Go.Bv
