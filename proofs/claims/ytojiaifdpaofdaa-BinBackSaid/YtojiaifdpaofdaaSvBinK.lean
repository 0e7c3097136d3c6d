/- Part of the lift: an abstract walk of the program's code, proved sound, and what it shows of this program. -/
import Derived.Test.YtojiaifdpaofdaaSvBinM
namespace Go.Bv
set_option linter.unusedSimpArgs false
set_option linter.unusedVariables false
open Go Go.Proofs

theorem binBack_walk (n m : Int) (s more0 : List UInt8) (hmore : more0.length ≤ reachBytes) (hm : -9223372036854775808 ≤ m ∧ m < 9223372036854775808) : ACalls Try.prog Nm.law03_BinBack [i64 n, i64 m, .str s, bytes more0] [] (.bool true) [] := by
  have hl := reach_lt hmore
  refine ACalls_of tab (dr_snd tab mixed) Nm.law03_BinBack_h rfl (by kernel_rfl) (Nat.le_of_ble_eq_true rfl) rfl ?_
  refine NCall.call binAwake_walk rfl rfl ?_
  refine NP.mk ⟨by simp; omega, by simp; omega⟩ ?_
  have e : (more0.map u8).take (Int.toNat (min ((more0.map u8).length : Int) 2000)) = (more0.take 2000).map u8 := cut_map u8 more0 2000
  rw [e]
  have hb : (more0.take 2000).length ≤ 2000 := by simp; omega
  generalize more0.take 2000 = more at hb
  by_cases hs : 3000 < s.length
  · refine NB.dec (fun h1 => ?_) (fun h1 => ?_)
    rotate_left
    · exact absurd (by omega) h1
    exact NRet.mk [] rfl ⟨.refl _, rfl⟩
  · rcases (show (∃ k : Nat, n = k ∧ k ≤ 72057594037927935) ∨ (n < 0 ∨ 72057594037927935 < n) by
      by_cases h : 0 ≤ n ∧ n ≤ 72057594037927935
      · exact .inl ⟨n.toNat, by omega, by omega⟩
      · exact .inr (by omega)) with ⟨k, rfl, hk⟩ | hn
    · have hp := putNum_own k hk
      have h1 := rdNum_put (intBytes (u64of m) 8 ++ (numBytes s.length ++ s ++ more)) hk
      have h2 := rdText_put more (s := s) (by omega)
      have h8 := numBytes_len8 hk
      have h8t := numBytes_len8 (n := s.length) (by omega)
      have h9 := intBytes_len (u64of m) 8
      have h10 := intOf_intBytes m hm.1 hm.2 (numBytes s.length ++ s ++ more)
      have hpi := putInt_walk (numBytes k) m (by omega)
      have hpt := putText_walk (numBytes k ++ intBytes (u64of m) 8) s (by simp; omega) (by omega)
      have hnum := num_walk (numBytes k ++ (intBytes (u64of m) 8 ++ (numBytes s.length ++ s ++ more))) (by simp; omega)
      have hint := int_walk (intBytes (u64of m) 8 ++ (numBytes s.length ++ s ++ more)) (by simp; omega) (by simp; omega)
      have htx := text_walk (numBytes s.length ++ s ++ more) (by simp; omega)
      have hsm := sameB_self more (by omega)
      rw [h1] at hnum
      rw [h2] at htx
      rw [h10, List.drop_left' h9] at hint
      rw [List.append_assoc, List.append_assoc] at hpt
      generalize numBytes k = p at *
      generalize intBytes (u64of m) 8 = q at *
      generalize numBytes s.length = z at *
      refine NB.dec (fun h1 => ?_) (fun h1 => ?_)
      · exact absurd h1 (by omega)
      refine NCall.atN (ACalls.frame (hp) rfl _) (by (try dsimp only [List.length_cons, List.length_nil, List.cons_append, List.nil_append, List.set_cons_zero, List.set_cons_succ, List.map_cons, List.map_nil, List.replicate_succ, List.replicate_zero, List.take_succ_cons, List.take_zero, List.drop_succ_cons, List.drop_zero, Blk.shift, AV.shT, AV.shA, AV.shR, AV.sh1]) <;> exact rfl) (by (try dsimp only [List.length_cons, List.length_nil, List.cons_append, List.nil_append, List.set_cons_zero, List.set_cons_succ, List.map_cons, List.map_nil, List.replicate_succ, List.replicate_zero, List.take_succ_cons, List.take_zero, List.drop_succ_cons, List.drop_zero, Blk.shift, AV.shT, AV.shA, AV.shR, AV.sh1]) <;> exact rfl) ?_
      refine NCall.atN (ACalls.lendOwn (hpi) _ (.cons (.own trivial rfl (by simp) (by simp) (by simp [List.take_of_length_le])) (.cons (.same _) .nil)) rfl rfl (flatB)) (by (try dsimp only [List.length_cons, List.length_nil, List.cons_append, List.nil_append, List.set_cons_zero, List.set_cons_succ, List.map_cons, List.map_nil, List.replicate_succ, List.replicate_zero, List.take_succ_cons, List.take_zero, List.drop_succ_cons, List.drop_zero, Blk.shift, AV.shT, AV.shA, AV.shR, AV.sh1]) <;> exact rfl) (by (try dsimp only [List.length_cons, List.length_nil, List.cons_append, List.nil_append, List.set_cons_zero, List.set_cons_succ, List.map_cons, List.map_nil, List.replicate_succ, List.replicate_zero, List.take_succ_cons, List.take_zero, List.drop_succ_cons, List.drop_zero, Blk.shift, AV.shT, AV.shA, AV.shR, AV.sh1]) <;> exact rfl) ?_
      refine NCall.atN (ACalls.lendOwn (hpt) _ (.cons (.own trivial rfl (by simp) (by simp) (by simp [List.take_of_length_le])) (.cons (.same _) .nil)) rfl rfl (flatB)) (by (try dsimp only [List.length_cons, List.length_nil, List.cons_append, List.nil_append, List.set_cons_zero, List.set_cons_succ, List.map_cons, List.map_nil, List.replicate_succ, List.replicate_zero, List.take_succ_cons, List.take_zero, List.drop_succ_cons, List.drop_zero, Blk.shift, AV.shT, AV.shA, AV.shR, AV.sh1]) <;> exact rfl) (by (try dsimp only [List.length_cons, List.length_nil, List.cons_append, List.nil_append, List.set_cons_zero, List.set_cons_succ, List.map_cons, List.map_nil, List.replicate_succ, List.replicate_zero, List.take_succ_cons, List.take_zero, List.drop_succ_cons, List.drop_zero, Blk.shift, AV.shT, AV.shA, AV.shR, AV.sh1]) <;> exact rfl) ?_
      refine NFz.own ?_
      refine NApp.enddN rfl (by simp only [List.length_map, List.length_append, List.length_replicate, List.length_cons, List.length_nil, List.length_take, List.length_drop]) (by simp only [List.length_map, List.length_append, List.length_replicate, List.length_cons, List.length_nil, List.length_take, List.length_drop]; omega) (by (try dsimp only [List.length_cons, List.length_nil, List.cons_append, List.nil_append, List.set_cons_zero, List.set_cons_succ, List.map_cons, List.map_nil, List.replicate_succ, List.replicate_zero, List.take_succ_cons, List.take_zero, List.drop_succ_cons, List.drop_zero, Blk.shift, AV.shT, AV.shA, AV.shR, AV.sh1]) <;> exact rfl) (by (try dsimp only [List.length_cons, List.length_nil, List.cons_append, List.nil_append, List.set_cons_zero, List.set_cons_succ, List.map_cons, List.map_nil, List.replicate_succ, List.replicate_zero, List.take_succ_cons, List.take_zero, List.drop_succ_cons, List.drop_zero, Blk.shift, AV.shT, AV.shA, AV.shR, AV.sh1]) <;> exact rfl) (by (try dsimp only [List.length_cons, List.length_nil, List.cons_append, List.nil_append, List.set_cons_zero, List.set_cons_succ, List.map_cons, List.map_nil, List.replicate_succ, List.replicate_zero, List.take_succ_cons, List.take_zero, List.drop_succ_cons, List.drop_zero, Blk.shift, AV.shT, AV.shA, AV.shR, AV.sh1]) <;> exact rfl) (by (try dsimp only [List.length_cons, List.length_nil, List.cons_append, List.nil_append, List.set_cons_zero, List.set_cons_succ, List.map_cons, List.map_nil, List.replicate_succ, List.replicate_zero, List.take_succ_cons, List.take_zero, List.drop_succ_cons, List.drop_zero, Blk.shift, AV.shT, AV.shA, AV.shR, AV.sh1]) <;> exact rfl) ?_
      refine NCall.frzN 3 (hnum) (.cons (.own rfl rfl (by simp) (by simp) (by simp [List.take_of_length_le])) .nil) rfl rfl (by (try dsimp only [List.length_cons, List.length_nil, List.cons_append, List.nil_append, List.set_cons_zero, List.set_cons_succ, List.map_cons, List.map_nil, List.replicate_succ, List.replicate_zero, List.take_succ_cons, List.take_zero, List.drop_succ_cons, List.drop_zero, Blk.shift, AV.shT, AV.shA, AV.shR, AV.sh1]) <;> exact rfl) ?_
      refine NCall.call (hint) rfl rfl ?_
      refine NCall.call (htx) rfl rfl ?_
      refine NB.dec (fun h2 => ?_) (fun h2 => ?_)
      rotate_left
      · exact absurd (by omega) h2
      refine NB.dec (fun h3 => ?_) (fun h3 => ?_)
      rotate_left
      · exact absurd (by omega) h3
      refine NB.dec (fun h4 => ?_) (fun h4 => ?_)
      rotate_left
      · exact absurd (by rfl) h4
      refine NCall.call (hsm) rfl rfl ?_
      exact NRet.mk [] rfl ⟨.refl _, rfl⟩
    · have hp := putNum_nil [] n hn
      have hp := hp.args (.cons (.nils .leaf) (.cons (.refl _) .nil))
      refine NB.dec (fun h1 => ?_) (fun h1 => ?_)
      · exact absurd h1 (by omega)
      refine NCall.call (hp) rfl rfl ?_
      refine NB.dec (fun h2 => ?_) (fun h2 => ?_)
      · exact NRet.mk [] rfl ⟨.refl _, rfl⟩
      refine NB.dec (fun h3 => ?_) (fun h3 => ?_)
      rotate_left
      · exact absurd (by omega) h3
      exact NRet.mk [] rfl ⟨.refl _, rfl⟩

end Go.Bv
