/- Part of the lift: an abstract walk of the program's code, proved sound, and what it shows of this program. -/
import Derived.Test.YtegjfgodmenagaaSvJournalS
import Derived.Test.YtegjfgodmenagaaSvTyp
namespace Go.Bv
set_option linter.unusedSimpArgs false
set_option linter.unusedVariables false
set_option maxHeartbeats 4000000
open Go Go.Proofs

theorem frames_take_lt (l : List (List UInt8)) {i j : Nat} (hi : i ≤ l.length) (h : (frames (l.take i)).length < (frames (l.take j)).length) : i < j := by
  rcases Nat.lt_or_ge i j with h1 | h1
  · exact h1
  · have := frames_mono l h1; omega
theorem frames_prefix (l : List (List UInt8)) (j : Nat) : (frames l).take (frames (l.take j)).length = frames (l.take j) := by
  have : frames l = frames (l.take j) ++ frames (l.drop j) := by rw [← frames_append, List.take_append_drop]
  rw [this, List.take_left' rfl]

def jops (l : List JOp) : AV := .list (.agg 3) (l.map jopA)
theorem journalKeeps_walk (l : List JOp) (hl : l.length ≤ 2 ^ 47) (hx : ∀ x ∈ l, okJOp x) : ACalls Try.prog Nm.law06_JournalKeeps [jops l] [] (.bool true) [] := by
  refine ACalls_of tab (dr_snd tab mixed) Nm.law06_JournalKeeps_h rfl (by kernel_rfl) (Nat.le_of_ble_eq_true rfl) rfl ?_
  refine NCall.call (journalAwake_walk) rfl rfl ?_
  refine NLoop.mk [(4, .leaf)] [0, 3, 4, 5, 6] (fun m vs H => ∃ (i fast : Nat) (all : List (List UInt8)) (f q : List UInt8), i ≤ 60 ∧ m = 60 - i ∧ all.length ≤ i ∧ (∀ p ∈ all, p.length ≤ 100) ∧ fast ≤ all.length ∧ f = frames (all.take fast) ∧ f ++ q = frames all ∧
    H = [.row .box (.agg 2) [diskA f q], .row .vrow .leaf (all.map bytes)] ∧ vs = [jops l, .ptr 0 0 0, .own 1 0 all.length, i64 fast, i64 i]) rfl ?_ ?_
  · refine Canon.wb [0, 1] _ [.row .box (.agg 2) [diskA [] []], .row .vrow .leaf []] rfl ⟨LeAs.refl _, .cons (.row _ _ (.cons (.agg (.cons (.nils .leaf) (.cons (.nils .leaf) .nil))) .nil)) (.cons (.same _) .nil), 60, 0, 0, [], [], [], Nat.zero_le _, rfl, Nat.le_refl _, by simp, Nat.le_refl _, rfl, rfl, rfl, rfl⟩
  · rintro m vs H ⟨i, fast, all, f, q, hi, rfl, ha, hp, hf, hfe, hfq, rfl, rfl⟩
    refine NB.dec (fun h1 => ?_) (fun h1 => ?_)
    · refine NB.dec (fun h2 => ?_) (fun h2 => ?_)
      · have hil : i < l.length := by simpa using h1
        obtain ⟨_, _, hb⟩ := hx _ (List.getElem_mem hil)
        have hb := reach_lt hb
        refine NP.mk (by omega) (NG.mapN hil ?_)
        generalize l[i] = x at *
        obtain ⟨d, k, b0⟩ := x
        dsimp only at hb
        have e : (b0.map u8).take (Int.toNat (min ((b0.map u8).length : Int) 100)) = (b0.take 100).map u8 := cut_map u8 b0 100
        have hb3 : (b0.take 100).length ≤ 100 := by simp; omega
        have hfl := frames_len all
        have hfl2 := len_flatten_le hp
        have hq : f.length + q.length = (frames all).length := by rw [← hfq, List.length_append]
        have hbig : (frames all).length ≤ 60 * 108 := by omega
        refine NW.mk _ rfl ?_
        refine NP.mk (by omega) ?_
        generalize (IntKind.wrap .u64 d).tmod 5 = r at *
        by_cases h3 : r = 0 ∨ r = 1
        · have hw := append_walk f q (b0.take 100) (by omega) (by omega)
          rw [if_pos (by omega)] at hw
          have fin : ∀ p : List UInt8, p.length ≤ 100 → ∃ m', m' < 60 - i ∧ ∃ (i' fast' : Nat) (all' : List (List UInt8)) (f' q' : List UInt8), i' ≤ 60 ∧ m' = 60 - i' ∧ all'.length ≤ i' ∧ (∀ p ∈ all', p.length ≤ 100) ∧ fast' ≤ all'.length ∧ f' = frames (all'.take fast') ∧ f' ++ q' = frames all' ∧
              [Blk.row .box (.agg 2) [diskA f (q ++ frameOf p)], .row .vrow .leaf (all.map bytes ++ [bytes p])] = [Blk.row .box (.agg 2) [diskA f' q'], .row .vrow .leaf (all'.map bytes)] ∧
              [jops l, .ptr 0 0 0, .own 1 0 (all.map bytes ++ [bytes p]).length, i64 fast, i64 ((i + 1 : Nat) : Int)] = [jops l, .ptr 0 0 0, .own 1 0 all'.length, i64 fast', i64 i'] := fun p hpl =>
            ⟨60 - (i + 1), by omega, i + 1, fast, all ++ [p], f, q ++ frameOf p, by omega, rfl, by simp; omega, fun x hx => by
              rcases List.mem_append.1 hx with hx | hx
              · exact hp x hx
              · rw [List.mem_singleton.1 hx]; exact hpl, by simp; omega, by rw [List.take_append_of_le_length hf]; exact hfe, by rw [← List.append_assoc, hfq, frames_snoc], by rw [List.map_append]; rfl, by rw [show (all.map bytes ++ [bytes p]).length = (all ++ [p]).length by simp]⟩
          rcases h3 with rfl | rfl
          · refine ND.yes (by omega) ?_
            refine NP.mk (by omega) ?_
            rw [(e)]
            refine NCall.call (hw) rfl rfl ?_
            refine ND.yes (by omega) ?_
            refine NFz.own ?_
            refine NApp.endA (by simp) (by simp; omega) ?_
            refine NW.i64 (by omega) (by omega) ?_
            exact Canon.mk [0, 4] rfl (fin _ hb3)
          · refine ND.no (by omega) ?_
            refine ND.yes (by omega) ?_
            refine NP.mk (by omega) ?_
            rw [(e)]
            refine NCall.call (hw) rfl rfl ?_
            refine ND.yes (by omega) ?_
            refine NFz.own ?_
            refine NApp.endA (by simp) (by simp; omega) ?_
            refine NW.i64 (by omega) (by omega) ?_
            exact Canon.mk [0, 4] rfl (fin _ hb3)
        · by_cases h4 : r = 2
          · subst h4
            refine ND.no (by omega) ?_
            refine ND.no (by omega) ?_
            refine ND.yes (by omega) ?_
            refine NCall.call (diskSync_walk f q (by omega)) rfl rfl ?_
            refine NW.i64 (by omega) (by omega) ?_
            exact Canon.mk [0, 1] rfl ⟨60 - (i + 1), by omega, i + 1, all.length, all, f ++ q, [], by omega, rfl, by omega, hp, Nat.le_refl _, by rw [List.take_length, hfq], by rw [List.append_nil, hfq], rfl, rfl⟩
          · by_cases h5 : r = 3
            · subst h5
              have hcr := diskCrash_walk f q k (by omega)
              have hc : f ++ q.take k.toNat = (frames all).take (f.length + min k.toNat q.length) := by
                rw [← hfq, List.take_length_add_append, ← List.take_take, List.take_length]
              obtain ⟨j, j1, j2, j3, j4⟩ := scan_cut all (f.length + min k.toNat q.length) fun p h => by have := hp p h; omega
              have ho := open_walk (f ++ q.take k.toNat) [] (by simp; omega)
              have hfj : fast ≤ j := by
                rcases Nat.lt_or_ge j fast with h | h
                · have h6 := j4 (by omega)
                  have h7 := frames_mono all (show j + 1 ≤ fast by omega)
                  rw [hfe] at h6
                  omega
                · exact h
              have hmj := frames_mono all (show j ≤ all.length by omega)
              rw [List.take_length] at hmj
              rw [List.append_nil, hc, j2, List.take_take, Nat.min_eq_left j3, frames_prefix] at ho
              rw [hc] at hcr
              have ho2 := open_walk (frames (all.take j)) [] (by simp; omega)
              have hsf := scan_frames (all.take j) [] (fun p h => by have := hp p (List.mem_of_mem_take h); omega)
              rw [scan_short (l := []) (by decide), List.append_nil, List.append_nil, Nat.add_zero] at hsf
              rw [List.append_nil, hsf, List.take_length] at ho2
              have hs1 := sameL_walk (all.take j) (all.take j) (by simp; omega) (fun x hx => by have := hp x (List.mem_of_mem_take hx); omega)
              have hs2 := same5_walk (frames (all.take j)) [] (frames (all.take j)) [] (by simp; omega)
              rw [decide_eq_true rfl] at hs1
              rw [decide_eq_true rfl, decide_eq_true rfl] at hs2
              have hpre : (all.take j).map bytes = ((all.map bytes).drop 0).take (((all.take j).map bytes).length : Int).toNat := by
                rw [List.drop_zero, Int.toNat_natCast, List.length_map, List.length_take, Nat.min_eq_left j1, List.map_take]
              have hj : (all.take j).length = j := by simp; omega
              refine ND.no (by omega) ?_
              refine ND.no (by omega) ?_
              refine ND.no (by omega) ?_
              refine ND.yes (by omega) ?_
              refine NCall.call (hcr) rfl rfl ?_
              refine NCall.call (ho) rfl rfl ?_
              refine NCall.call (ho2) rfl rfl ?_
              refine ND.no (by (simp only [List.length_map, List.length_append, List.length_replicate, List.length_cons, List.length_nil, List.length_take, List.length_drop]; omega)) ?_
              refine ND.no (by (simp only [List.length_map, List.length_append, List.length_replicate, List.length_cons, List.length_nil, List.length_take, List.length_drop]; omega)) ?_
              refine NP.mk (by (simp only [List.length_map, List.length_append, List.length_replicate, List.length_cons, List.length_nil, List.length_take, List.length_drop]; omega)) ?_
              refine NCall.eq (by simp only [List.length_map] <;> exact rfl) ?_
              refine NCall.lend (hs1) (.cons (.same _) (.cons (.own trivial rfl (by simp) (by simp; omega) (by simp [List.take_of_length_le])) .nil)) rfl rfl ?_
              refine NCall.call (hs1) rfl rfl ?_
              refine NCall.call (hs2) rfl rfl ?_
              refine NP.mk (by (simp only [List.length_map, List.length_append, List.length_replicate, List.length_cons, List.length_nil, List.length_take, List.length_drop]; omega)) ?_
              refine NCut.own ?_
              refine NP.mk (by omega) ?_
              refine NW.i64 (by omega) (by omega) ?_
              have hk1 : (((all.take j).map bytes).length : Int).toNat = j := by rw [Int.toNat_natCast, List.length_map, hj]
              have hfin : ∃ m', m' < 60 - i ∧ ∃ (i' fast' : Nat) (all' : List (List UInt8)) (f' q' : List UInt8), i' ≤ 60 ∧ m' = 60 - i' ∧ all'.length ≤ i' ∧ (∀ p ∈ all', p.length ≤ 100) ∧ fast' ≤ all'.length ∧ f' = frames (all'.take fast') ∧ f' ++ q' = frames all' ∧
                  [Blk.row .box (.agg 2) [diskA (frames (all.take j)) []], .row .vrow .leaf ((all.map bytes).take (((all.take j).map bytes).length : Int).toNat)] = [Blk.row .box (.agg 2) [diskA f' q'], .row .vrow .leaf (all'.map bytes)] ∧
                  [jops l, .ptr 0 0 0, .own 1 0 (((all.take j).map bytes).length : Int).toNat, i64 ((((all.take j).map bytes).length : Int).toNat : Nat), i64 ((i + 1 : Nat) : Int)] = [jops l, .ptr 0 0 0, .own 1 0 all'.length, i64 fast', i64 i'] := by
                rw [hk1]
                exact ⟨60 - (i + 1), by omega, i + 1, j, all.take j, frames (all.take j), [], by omega, rfl, by omega, fun x hx => hp x (List.mem_of_mem_take hx), by omega, by rw [List.take_take, Nat.min_self], List.append_nil _, by rw [List.map_take], by rw [hj]⟩
              exact Canon.mk [0, 5] rfl hfin
            · have hos := open_walk f q (by omega)
              have hsf := scan_frames all [] (fun p h => by have := hp p h; omega)
              rw [scan_short (l := []) (by decide), List.append_nil, List.append_nil, Nat.add_zero] at hsf
              rw [hfq, hsf, List.take_length] at hos
              have hs1 := sameL_walk all all (by omega) (fun x hx => by have := hp x hx; omega)
              rw [decide_eq_true rfl] at hs1
              refine ND.no (by omega) ?_
              refine ND.no (by omega) ?_
              refine ND.no (by omega) ?_
              refine ND.no (by omega) ?_
              refine NCall.call (hos) rfl rfl ?_
              refine NCall.lend (hs1) (.cons (.same _) (.cons (.own trivial rfl (by simp) (by simp) (by simp [List.take_of_length_le])) .nil)) rfl rfl ?_
              refine NW.i64 (by omega) (by omega) ?_
              exact Canon.mk [0, 1] rfl ⟨60 - (i + 1), by omega, i + 1, all.length, all, frames all, [], by omega, rfl, by omega, hp, Nat.le_refl _, by rw [List.take_length], List.append_nil _, rfl, rfl⟩
      · exact NRet.mk [] rfl ⟨.refl _, rfl⟩
    · exact NRet.mk [] rfl ⟨.refl _, rfl⟩
end Go.Bv
