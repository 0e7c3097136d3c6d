/- Part of the lift: an abstract walk of the program's code, proved sound, and what it shows of this program. -/
import Derived.Test.YtojiaifdpaofdaaSvDisk5
namespace Go.Bv
set_option linter.unusedSimpArgs false
set_option linter.unusedVariables false
open Go Go.Proofs

/-- slices.Concat, its answer owned. -/
theorem concatB_own (ls : List (List UInt8)) (hl : ls.flatten.length ≤ 2 ^ 45) (hk : ls.length ≤ 2 ^ 45) : ACalls Try.prog Nm.slices_Concat_byte_byte [.list .leaf (ls.map bytes)] [] (.own 0 0 ls.flatten.length) [.row .vrow .leaf (ls.flatten.map u8)] := by
  refine ACalls_of tab noDr_snd Nm.slices_Concat_byte_byte_h rfl (by kernel_rfl) (Nat.le_of_ble_eq_true rfl) rfl ?_
  refine NLoop.mk [] [0, 3, 9, 10, 11] (fun m vs H => ∃ i, i ≤ ls.length ∧ m = ls.length - i ∧ H = [] ∧ vs = [.list .leaf (ls.map bytes), i64 (ls.take i).flatten.length, .list .leaf (ls.map bytes), i64 ls.length, i64 i]) rfl ?_ ?_
  · exact Canon.mk [] rfl ⟨ls.length, 0, Nat.zero_le _, rfl, rfl, by simp [i64]⟩
  · rintro m vs H ⟨i, hi, rfl, rfl, rfl⟩
    have hs := flatten_take_le ls i
    have hs' := flatten_take_le ls (i + 1)
    refine NB.dec (fun h => ?_) (fun h => ?_)
    · have hi' : i < ls.length := by omega
      have hsucc := flatten_succ_len ls hi'
      refine NP.mk (by omega) ?_
      refine NG.mapN (by omega) ?_
      refine NW.i64 (by (simp only [List.length_map, List.length_append, List.length_replicate, List.length_cons, List.length_nil, List.length_take, List.length_drop]; omega)) (by (simp only [List.length_map, List.length_append, List.length_replicate, List.length_cons, List.length_nil, List.length_take, List.length_drop]; omega)) ?_
      refine NW.i64 (by omega) (by omega) ?_
      refine Canon.mk [] rfl ⟨ls.length - (i + 1), by omega, i + 1, by omega, rfl, rfl, ?_⟩
      rw [hsucc, List.length_map]; rfl
    · have : i = ls.length := by omega
      subst this
      rw [List.take_length] at *
      generalize hn : ls.flatten.length = n at *
      refine NCall.atN (ACalls.frame (growB_walk n (by omega)) rfl _) (by (try dsimp only [List.length_cons, List.length_nil, List.cons_append, List.nil_append, List.set_cons_zero, List.set_cons_succ, List.map_cons, List.map_nil, List.replicate_succ, List.replicate_zero, List.take_succ_cons, List.take_zero, List.drop_succ_cons, List.drop_zero, Blk.shift, killAll, AV.shT, AV.shA, AV.shR, AV.sh1]) <;> exact rfl) (by (try dsimp only [List.length_cons, List.length_nil, List.cons_append, List.nil_append, List.set_cons_zero, List.set_cons_succ, List.map_cons, List.map_nil, List.replicate_succ, List.replicate_zero, List.take_succ_cons, List.take_zero, List.drop_succ_cons, List.drop_zero, Blk.shift, killAll, AV.shT, AV.shA, AV.shR, AV.sh1]) <;> exact rfl) ?_
      refine NLoop.mk [] [6, 25, 26, 27] (fun m vs H => ∃ i, i ≤ ls.length ∧ m = ls.length - i ∧ H = [.row .vrow .leaf ((ls.take i).flatten.map u8 ++ List.replicate (n - (ls.take i).flatten.length) (u8 0))] ∧ vs = [.own 0 0 (ls.take i).flatten.length, .list .leaf (ls.map bytes), i64 ls.length, i64 i]) rfl ?_ ?_
      · exact Canon.mk [0] rfl ⟨ls.length, 0, Nat.zero_le _, rfl, rfl, by simp [i64]⟩
      · rintro m vs H ⟨i, hi, rfl, rfl, rfl⟩
        have hs := flatten_take_le ls i
        have hs' := flatten_take_le ls (i + 1)
        refine NB.dec (fun h => ?_) (fun h => ?_)
        · have hi' : i < ls.length := by omega
          have hsucc := flatten_succ_len ls hi'
          refine NP.mk (by omega) ?_
          refine NG.mapN (by omega) ?_
          refine NFz.own ?_
          refine NApp.inplN (by (simp only [List.length_map, List.length_append, List.length_replicate, List.length_cons, List.length_nil, List.length_take, List.length_drop]; omega)) (by (try dsimp only [List.length_cons, List.length_nil, List.cons_append, List.nil_append, List.set_cons_zero, List.set_cons_succ, List.map_cons, List.map_nil, List.replicate_succ, List.replicate_zero, List.take_succ_cons, List.take_zero, List.drop_succ_cons, List.drop_zero, Blk.shift, killAll, AV.shT, AV.shA, AV.shR, AV.sh1]) <;> exact rfl) (by (try dsimp only [List.length_cons, List.length_nil, List.cons_append, List.nil_append, List.set_cons_zero, List.set_cons_succ, List.map_cons, List.map_nil, List.replicate_succ, List.replicate_zero, List.take_succ_cons, List.take_zero, List.drop_succ_cons, List.drop_zero, Blk.shift, killAll, AV.shT, AV.shA, AV.shR, AV.sh1]) <;> exact rfl) (by (try dsimp only [List.length_cons, List.length_nil, List.cons_append, List.nil_append, List.set_cons_zero, List.set_cons_succ, List.map_cons, List.map_nil, List.replicate_succ, List.replicate_zero, List.take_succ_cons, List.take_zero, List.drop_succ_cons, List.drop_zero, Blk.shift, killAll, AV.shT, AV.shA, AV.shR, AV.sh1]) <;> exact rfl) ?_
          refine NW.i64 (by omega) (by omega) ?_
          refine Canon.mk [0] rfl ⟨ls.length - (i + 1), by omega, i + 1, by omega, rfl, ?_, ?_⟩
          · have := inpl_row (p := (ls.take i).flatten.map u8) (x := ls[i].map u8) (z := u8 0) (n := n) (k := 0 + (ls.take i).flatten.length) (by simp only [List.length_map]) (by simp only [List.length_map]; omega)
            simp only [List.length_map, List.length_append] at this ⊢
            rw [this, flatten_take_succ ls hi', List.map_append, List.length_append]
          · rw [hsucc, List.length_map]; rfl
        · have : i = ls.length := by omega
          subst this
          rw [List.take_length] at *
          skip
          exact NRet.mk [0] rfl ⟨by rw [hn]; exact .refl _, by rw [hn, Nat.sub_self]; simp⟩

theorem diskAll_own (f l : List UInt8) (h : f.length + l.length ≤ 2 ^ 45) : ACalls Try.prog Nm.disk_All [diskA f l] [] (.own 0 0 (f ++ l).length) [.row .vrow .leaf ((f ++ l).map u8)] := by
  refine ACalls_of tab (dr_snd tab mixed) Nm.disk_All_h rfl (by kernel_rfl) (Nat.le_of_ble_eq_true rfl) rfl ?_
  have hc := concatB_own [f, l] (by simp; omega) (by simp)
  have e : [f, l].flatten = f ++ l := by simp
  rw [e] at hc
  refine NCall.atN (ACalls.frame (hc) rfl _) (by (try dsimp only [List.length_cons, List.length_nil, List.cons_append, List.nil_append, List.set_cons_zero, List.set_cons_succ, List.map_cons, List.map_nil, List.replicate_succ, List.replicate_zero, List.take_succ_cons, List.take_zero, List.drop_succ_cons, List.drop_zero, Blk.shift, killAll, AV.shT, AV.shA, AV.shR, AV.sh1]) <;> exact rfl) (by (try dsimp only [List.length_cons, List.length_nil, List.cons_append, List.nil_append, List.set_cons_zero, List.set_cons_succ, List.map_cons, List.map_nil, List.replicate_succ, List.replicate_zero, List.take_succ_cons, List.take_zero, List.drop_succ_cons, List.drop_zero, Blk.shift, killAll, AV.shT, AV.shA, AV.shR, AV.sh1]) <;> exact rfl) ?_
  exact NRet.mk [1] rfl ⟨.refl _, rfl⟩

/-- One step of the script. -/
def opA (x : Int × Int × List UInt8) : AV := .agg [i64 x.1, i64 x.2.1, bytes x.2.2]

theorem diskKeeps_walk (l : List (Int × Int × List UInt8)) (hl : l.length ≤ reachBytes) (hx : ∀ x ∈ l, (-9223372036854775808 ≤ x.1 ∧ x.1 < 9223372036854775808) ∧ x.2.2.length ≤ reachBytes) : ACalls Try.prog Nm.law05_DiskKeeps [.list (.agg 3) (l.map opA)] [] (.bool true) [] := by
  have hl := reach_lt hl
  refine ACalls_of tab (dr_snd tab mixed) Nm.law05_DiskKeeps_h rfl (by kernel_rfl) (Nat.le_of_ble_eq_true rfl) rfl ?_
  refine NCall.call (diskAwake_walk) rfl rfl ?_
  refine NLoop.mk [] [0, 3, 4] (fun m vs H => ∃ (i : Nat) (f q : List UInt8), i ≤ 60 ∧ m = 60 - i ∧ f.length + q.length ≤ 100 * i ∧ H = [.row .box (.agg 2) [diskA f q]] ∧ vs = [.list (.agg 3) (l.map opA), .ptr 0 0 0, i64 i]) rfl ?_ ?_
  · refine Canon.wb [0] _ [.row .box (.agg 2) [diskA [] []]] rfl ⟨LeAs.refl _, .cons (.row _ _ (.cons (.agg (.cons (.nils .leaf) (.cons (.nils .leaf) .nil))) .nil)) .nil, 60, 0, [], [], Nat.zero_le _, rfl, by simp, rfl, rfl⟩
  · rintro m vs H ⟨i, f, q, hi, rfl, hfq, rfl, rfl⟩
    refine NB.dec (fun h1 => ?_) (fun h1 => ?_)
    · refine NB.dec (fun h2 => ?_) (fun h2 => ?_)
      · have hil : i < l.length := by simpa using h1
        obtain ⟨⟨hd0, hd1⟩, hb⟩ := hx _ (List.getElem_mem hil)
        have hb := reach_lt hb
        refine NP.mk (by omega) (NG.mapN hil ?_)
        generalize l[i] = x at *
        obtain ⟨d, k, b0⟩ := x
        dsimp only at hd0 hd1 hb
        have e : (b0.map u8).take (Int.toNat (min ((b0.map u8).length : Int) 100)) = (b0.take 100).map u8 := cut_map u8 b0 100
        have hb3 : (b0.take 100).length ≤ 100 := by simp; omega
        have ha := diskAll_own f q (by omega)
        refine NCall.atN (ACalls.frame (ha) rfl _) (by (try dsimp only [List.length_cons, List.length_nil, List.cons_append, List.nil_append, List.set_cons_zero, List.set_cons_succ, List.map_cons, List.map_nil, List.replicate_succ, List.replicate_zero, List.take_succ_cons, List.take_zero, List.drop_succ_cons, List.drop_zero, Blk.shift, killAll, AV.shT, AV.shA, AV.shR, AV.sh1]) <;> exact rfl) (by (try dsimp only [List.length_cons, List.length_nil, List.cons_append, List.nil_append, List.set_cons_zero, List.set_cons_succ, List.map_cons, List.map_nil, List.replicate_succ, List.replicate_zero, List.take_succ_cons, List.take_zero, List.drop_succ_cons, List.drop_zero, Blk.shift, killAll, AV.shT, AV.shA, AV.shR, AV.sh1]) <;> exact rfl) ?_
        refine NW.mk _ rfl ?_
        refine NP.mk (by omega) ?_
        generalize (IntKind.wrap .u64 d).tmod 4 = r at *
        by_cases h3 : r = 0 ∨ r = 1
        · have hw := diskWrite_walk f q (b0.take 100) (by omega)
          rw [if_pos (by omega)] at hw
          have ha2 := diskAll_walk f (q ++ b0.take 100) (by simp; omega)
          have hs := sameB_self (f ++ (q ++ b0.take 100)) (by simp; omega)
          rcases h3 with rfl | rfl
          · refine NP.mk (by kernel_rfl) ?_
            apply NDr.rd [0]
            · intro fH TH
              exact ⟨rfl, rfl⟩
            apply NDr.rd [1]
            · intro fH TH
              exact ⟨rfl, rfl⟩
            apply NDr.rd [1]
            · intro fH TH
              exact ⟨rfl, rfl⟩
            apply NDr.rd [1]
            · intro fH TH
              exact ⟨rfl, rfl⟩
            apply NDr.rd [1]
            · intro fH TH
              exact ⟨rfl, rfl⟩
            apply NDr.pure
            · exact ⟨rfl, rfl⟩
            apply NDr.pure
            · exact ⟨rfl, rfl⟩
            apply NDr.pure
            · refine NP.mk (by omega) ?_
              rw [(e)]
              exact ⟨rfl, rfl⟩
            apply NDr.pure
            · refine NCall.call (hw) rfl rfl ?_
              exact ⟨rfl, rfl⟩
            apply NDr.pure
            · exact ⟨rfl, rfl⟩
            apply NDr.pure
            · exact ⟨rfl, rfl⟩
            apply NDr.pure
            · exact ⟨rfl, rfl⟩
            apply NDr.efw []
            · exact ⟨rfl, rfl⟩
            · repeat (first | exact trivial | refine ⟨by first | trivial | rfl, ?_⟩)
            apply NDr.efw [3]
            · exact ⟨rfl, rfl⟩
            · repeat (first | exact trivial | refine ⟨by first | trivial | rfl, ?_⟩)
            apply NDr.pure
            · exact ⟨rfl, rfl⟩
            refine NP.mk (by kernel_rfl) ?_
            refine NP.mk (by kernel_rfl) ?_
            apply NDr.pure
            · exact ⟨rfl, rfl⟩
            apply NDr.pure
            · exact ⟨rfl, rfl⟩
            apply NDr.pure
            · exact ⟨rfl, rfl⟩
            apply NDr.rd [3]
            · intro fH TH
              exact ⟨rfl, rfl⟩
            apply NDr.pure
            · refine NCall.call (ha2) rfl rfl ?_
              exact ⟨rfl, rfl⟩
            apply NDr.any
            · intro H'
              exact ⟨rfl, rfl⟩
            apply NDr.rd [1]
            · intro fH TH
              exact ⟨rfl, rfl⟩
            apply NDr.rd [1]
            · intro fH TH
              exact ⟨rfl, rfl⟩
            apply NDr.rd [1]
            · intro fH TH
              exact ⟨rfl, rfl⟩
            apply NDr.rd [1]
            · intro fH TH
              exact ⟨rfl, rfl⟩
            apply NDr.pure
            · exact ⟨rfl, rfl⟩
            apply NDr.pure
            · exact ⟨rfl, rfl⟩
            apply NDr.pure
            · refine NP.mk (by omega) ?_
              rw [(e)]
              exact ⟨rfl, rfl⟩
            apply NDr.efw [2]
            · refine NFz.own ?_
              refine NApp.enddN rfl (by simp only [List.length_map, List.length_append, List.length_replicate, List.length_cons, List.length_nil, List.length_take, List.length_drop]) (by simp only [List.length_map, List.length_append, List.length_replicate, List.length_cons, List.length_nil, List.length_take, List.length_drop]; omega) (by (try dsimp only [List.length_cons, List.length_nil, List.cons_append, List.nil_append, List.set_cons_zero, List.set_cons_succ, List.map_cons, List.map_nil, List.replicate_succ, List.replicate_zero, List.take_succ_cons, List.take_zero, List.drop_succ_cons, List.drop_zero, Blk.shift, killAll, AV.shT, AV.shA, AV.shR, AV.sh1]) <;> exact rfl) (by (try dsimp only [List.length_cons, List.length_nil, List.cons_append, List.nil_append, List.set_cons_zero, List.set_cons_succ, List.map_cons, List.map_nil, List.replicate_succ, List.replicate_zero, List.take_succ_cons, List.take_zero, List.drop_succ_cons, List.drop_zero, Blk.shift, killAll, AV.shT, AV.shA, AV.shR, AV.sh1]) <;> exact rfl) (by (try dsimp only [List.length_cons, List.length_nil, List.cons_append, List.nil_append, List.set_cons_zero, List.set_cons_succ, List.map_cons, List.map_nil, List.replicate_succ, List.replicate_zero, List.take_succ_cons, List.take_zero, List.drop_succ_cons, List.drop_zero, Blk.shift, killAll, AV.shT, AV.shA, AV.shR, AV.sh1]) <;> exact rfl) (by (try dsimp only [List.length_cons, List.length_nil, List.cons_append, List.nil_append, List.set_cons_zero, List.set_cons_succ, List.map_cons, List.map_nil, List.replicate_succ, List.replicate_zero, List.take_succ_cons, List.take_zero, List.drop_succ_cons, List.drop_zero, Blk.shift, killAll, AV.shT, AV.shA, AV.shR, AV.sh1]) <;> exact rfl) ?_
              exact ⟨rfl, rfl⟩
            · repeat (first | exact trivial | refine ⟨by first | trivial | rfl, ?_⟩)
            apply NDr.efw [4]
            · refine NCall.eq (by (try simp only [List.length_map]) <;> exact rfl) ?_
              refine NCall.lend (hs) (.cons (.same _) (.cons (.own trivial rfl (by simp) (by simp) (by simp [List.take_of_length_le])) .nil)) rfl rfl ?_
              exact ⟨rfl, rfl⟩
            · repeat (first | exact trivial | refine ⟨by first | trivial | rfl, ?_⟩)
            apply NDr.pure
            · exact ⟨rfl, rfl⟩
            apply NDr.pure
            · exact ⟨rfl, rfl⟩
            apply NDr.pure
            · exact ⟨rfl, rfl⟩
            apply NDr.rd [3]
            · intro fH TH
              exact ⟨rfl, rfl⟩
            apply NDr.rd [3]
            · intro fH TH
              exact ⟨rfl, rfl⟩
            apply NDr.pure
            · exact ⟨rfl, rfl⟩
            apply NDr.pure
            · exact ⟨rfl, rfl⟩
            apply NDr.pure
            · refine NB.dec (fun h1 => ?_) (fun h1 => ?_)
              rotate_left
              · exact absurd (by omega) h1
              exact ⟨rfl, rfl⟩
            apply NDr.pure
            · exact ⟨rfl, rfl⟩
            refine NP.mk (by kernel_rfl) ?_
            refine NW.i64 (by omega) (by omega) ?_
            exact Canon.mk [0] rfl ⟨60 - (i + 1), by omega, i + 1, f, q ++ b0.take 100, by omega, rfl, by rw [List.length_append]; omega, rfl, rfl⟩
          · refine NP.mk (by kernel_rfl) ?_
            apply NDr.rd [0]
            · intro fH TH
              exact ⟨rfl, rfl⟩
            apply NDr.rd [1]
            · intro fH TH
              exact ⟨rfl, rfl⟩
            apply NDr.rd [1]
            · intro fH TH
              exact ⟨rfl, rfl⟩
            apply NDr.rd [1]
            · intro fH TH
              exact ⟨rfl, rfl⟩
            apply NDr.rd [1]
            · intro fH TH
              exact ⟨rfl, rfl⟩
            apply NDr.pure
            · exact ⟨rfl, rfl⟩
            apply NDr.pure
            · exact ⟨rfl, rfl⟩
            apply NDr.pure
            · refine NP.mk (by omega) ?_
              rw [(e)]
              exact ⟨rfl, rfl⟩
            apply NDr.pure
            · refine NCall.call (hw) rfl rfl ?_
              exact ⟨rfl, rfl⟩
            apply NDr.pure
            · exact ⟨rfl, rfl⟩
            apply NDr.pure
            · exact ⟨rfl, rfl⟩
            apply NDr.pure
            · exact ⟨rfl, rfl⟩
            apply NDr.efw []
            · exact ⟨rfl, rfl⟩
            · repeat (first | exact trivial | refine ⟨by first | trivial | rfl, ?_⟩)
            apply NDr.efw [3]
            · exact ⟨rfl, rfl⟩
            · repeat (first | exact trivial | refine ⟨by first | trivial | rfl, ?_⟩)
            apply NDr.pure
            · exact ⟨rfl, rfl⟩
            refine NP.mk (by kernel_rfl) ?_
            refine NP.mk (by kernel_rfl) ?_
            apply NDr.pure
            · exact ⟨rfl, rfl⟩
            apply NDr.pure
            · exact ⟨rfl, rfl⟩
            apply NDr.pure
            · exact ⟨rfl, rfl⟩
            apply NDr.rd [3]
            · intro fH TH
              exact ⟨rfl, rfl⟩
            apply NDr.pure
            · refine NCall.call (ha2) rfl rfl ?_
              exact ⟨rfl, rfl⟩
            apply NDr.any
            · intro H'
              exact ⟨rfl, rfl⟩
            apply NDr.rd [1]
            · intro fH TH
              exact ⟨rfl, rfl⟩
            apply NDr.rd [1]
            · intro fH TH
              exact ⟨rfl, rfl⟩
            apply NDr.rd [1]
            · intro fH TH
              exact ⟨rfl, rfl⟩
            apply NDr.rd [1]
            · intro fH TH
              exact ⟨rfl, rfl⟩
            apply NDr.pure
            · exact ⟨rfl, rfl⟩
            apply NDr.pure
            · exact ⟨rfl, rfl⟩
            apply NDr.pure
            · refine NP.mk (by omega) ?_
              rw [(e)]
              exact ⟨rfl, rfl⟩
            apply NDr.efw [2]
            · refine NFz.own ?_
              refine NApp.enddN rfl (by simp only [List.length_map, List.length_append, List.length_replicate, List.length_cons, List.length_nil, List.length_take, List.length_drop]) (by simp only [List.length_map, List.length_append, List.length_replicate, List.length_cons, List.length_nil, List.length_take, List.length_drop]; omega) (by (try dsimp only [List.length_cons, List.length_nil, List.cons_append, List.nil_append, List.set_cons_zero, List.set_cons_succ, List.map_cons, List.map_nil, List.replicate_succ, List.replicate_zero, List.take_succ_cons, List.take_zero, List.drop_succ_cons, List.drop_zero, Blk.shift, killAll, AV.shT, AV.shA, AV.shR, AV.sh1]) <;> exact rfl) (by (try dsimp only [List.length_cons, List.length_nil, List.cons_append, List.nil_append, List.set_cons_zero, List.set_cons_succ, List.map_cons, List.map_nil, List.replicate_succ, List.replicate_zero, List.take_succ_cons, List.take_zero, List.drop_succ_cons, List.drop_zero, Blk.shift, killAll, AV.shT, AV.shA, AV.shR, AV.sh1]) <;> exact rfl) (by (try dsimp only [List.length_cons, List.length_nil, List.cons_append, List.nil_append, List.set_cons_zero, List.set_cons_succ, List.map_cons, List.map_nil, List.replicate_succ, List.replicate_zero, List.take_succ_cons, List.take_zero, List.drop_succ_cons, List.drop_zero, Blk.shift, killAll, AV.shT, AV.shA, AV.shR, AV.sh1]) <;> exact rfl) (by (try dsimp only [List.length_cons, List.length_nil, List.cons_append, List.nil_append, List.set_cons_zero, List.set_cons_succ, List.map_cons, List.map_nil, List.replicate_succ, List.replicate_zero, List.take_succ_cons, List.take_zero, List.drop_succ_cons, List.drop_zero, Blk.shift, killAll, AV.shT, AV.shA, AV.shR, AV.sh1]) <;> exact rfl) ?_
              exact ⟨rfl, rfl⟩
            · repeat (first | exact trivial | refine ⟨by first | trivial | rfl, ?_⟩)
            apply NDr.efw [4]
            · refine NCall.eq (by (try simp only [List.length_map]) <;> exact rfl) ?_
              refine NCall.lend (hs) (.cons (.same _) (.cons (.own trivial rfl (by simp) (by simp) (by simp [List.take_of_length_le])) .nil)) rfl rfl ?_
              exact ⟨rfl, rfl⟩
            · repeat (first | exact trivial | refine ⟨by first | trivial | rfl, ?_⟩)
            apply NDr.pure
            · exact ⟨rfl, rfl⟩
            apply NDr.pure
            · exact ⟨rfl, rfl⟩
            apply NDr.pure
            · exact ⟨rfl, rfl⟩
            apply NDr.rd [3]
            · intro fH TH
              exact ⟨rfl, rfl⟩
            apply NDr.rd [3]
            · intro fH TH
              exact ⟨rfl, rfl⟩
            apply NDr.pure
            · exact ⟨rfl, rfl⟩
            apply NDr.pure
            · exact ⟨rfl, rfl⟩
            apply NDr.pure
            · refine NB.dec (fun h1 => ?_) (fun h1 => ?_)
              rotate_left
              · exact absurd (by omega) h1
              exact ⟨rfl, rfl⟩
            apply NDr.pure
            · exact ⟨rfl, rfl⟩
            refine NP.mk (by kernel_rfl) ?_
            refine NW.i64 (by omega) (by omega) ?_
            exact Canon.mk [0] rfl ⟨60 - (i + 1), by omega, i + 1, f, q ++ b0.take 100, by omega, rfl, by rw [List.length_append]; omega, rfl, rfl⟩
        · by_cases h4 : r = 2
          · subst h4
            have ha3 := diskAll_walk (f ++ q) [] (by simp; omega)
            rw [List.append_nil] at ha3
            refine NCall.call (diskSync_walk f q (by omega)) rfl rfl ?_
            refine NCall.call (ha3) rfl rfl ?_
            refine NCall.lend (sameB_self (f ++ q) (by simp; omega)) (.cons (.same _) (.cons (.own trivial rfl (by simp) (by simp) (by simp [List.take_of_length_le])) .nil)) rfl rfl ?_
            refine NW.i64 (by omega) (by omega) ?_
            exact Canon.mk [0] rfl ⟨60 - (i + 1), by omega, i + 1, f ++ q, [], by omega, rfl, by rw [List.length_append, List.length_nil]; omega, rfl, rfl⟩
          · have hc : (f ++ q.take k.toNat).length ≤ f.length + q.length := by simp; omega
            have ha3 := diskAll_walk (f ++ q.take k.toNat) [] (by simp at hc ⊢; omega)
            rw [List.append_nil] at ha3
            have hpre : (f ++ q.take k.toNat).map u8 = (((f ++ q).map u8).drop 0).take ((((f ++ q.take k.toNat).length : Nat) : Int)).toNat := by
              have e2 : (f ++ q).take (f ++ q.take k.toNat).length = f ++ q.take k.toNat :=
                (List.prefix_iff_eq_take.1 ((List.prefix_append_right_inj f).2 (List.take_prefix k.toNat q))).symm
              rw [List.drop_zero, Int.toNat_natCast, ← List.map_take, e2]
            have hle : (f ++ q.take k.toNat).length ≤ (f ++ q).length := by simp at hc ⊢; omega
            refine NB.dec (fun h1 => ?_) (fun h1 => ?_)
            · exact absurd h1 (by omega)
            refine NB.dec (fun h2 => ?_) (fun h2 => ?_)
            · exact absurd h2 (by omega)
            refine NB.dec (fun h3 => ?_) (fun h3 => ?_)
            · exact absurd h3 (by omega)
            refine NCall.call (diskCrash_walk f q k (by omega)) rfl rfl ?_
            refine NCall.call (ha3) rfl rfl ?_
            refine NB.dec (fun h4 => ?_) (fun h4 => ?_)
            · exact absurd h4 (by (simp only [List.length_map, List.length_append, List.length_replicate, List.length_cons, List.length_nil, List.length_take, List.length_drop]; omega))
            refine NB.dec (fun h5 => ?_) (fun h5 => ?_)
            · exact absurd h5 (by (simp only [List.length_map, List.length_append, List.length_replicate, List.length_cons, List.length_nil, List.length_take, List.length_drop]; omega))
            refine NP.mk (by omega) ?_
            refine NCall.eq (by (try simp only [List.length_map]) <;> exact rfl) ?_
            refine NCall.lend (sameB_self (f ++ q.take k.toNat) (by omega)) (.cons (.same _) (.cons (.own trivial rfl (by simp) (by simp; omega) (by assumption)) .nil)) rfl rfl ?_
            refine NW.i64 (by omega) (by omega) ?_
            exact Canon.mk [0] rfl ⟨60 - (i + 1), by omega, i + 1, f ++ q.take k.toNat, [], by omega, rfl, by rw [List.length_nil]; omega, rfl, rfl⟩
      · exact NRet.mk [] rfl ⟨.refl _, rfl⟩
    · exact NRet.mk [] rfl ⟨.refl _, rfl⟩
end Go.Bv
