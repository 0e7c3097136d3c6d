/- Part of the lift: an abstract walk of the program's code, proved sound, and what it shows of this program. -/
import Derived.Test.YtegjfgodmenagaaSvNetL
namespace Go.Bv
set_option linter.unusedSimpArgs false
set_option linter.unusedVariables false
set_option maxHeartbeats 4000000
open Go Go.Proofs

def netOps (l : List NetOp) : AV := .list (.agg 5) (l.map netOpA)
theorem netKeeps_walk (l : List NetOp) (hl : l.length ≤ 2 ^ 47) (hx : ∀ x ∈ l, okNetOp x) : ACalls Try.prog Nm.law18_NetKeeps [netOps l] [] (.bool true) [] := by
  refine ACalls_of tab (dr_snd tab mixed) Nm.law18_NetKeeps_h rfl (by kernel_rfl) (Nat.le_of_ble_eq_true rfl) rfl ?_
  refine NCall.call (netAwake_walk) rfl rfl ?_
  refine NLoop.mk [(4, .agg 3)] [0, 3, 4, 5] (fun m vs H => ∃ (i : Nat) (way : List Packet), i ≤ 150 ∧ m = 150 - i ∧ way.length ≤ 64 ∧ (∀ p ∈ way, p.bytes.length ≤ 100) ∧
    H = [.row .box (.agg 1) [netA ⟨way⟩], .row .vrow (.agg 3) (way.map packetA)] ∧ vs = [netOps l, .ptr 0 0 0, .own 1 0 (way.map packetA).length, i64 i]) rfl ?_ ?_
  · refine Canon.wb [0, 1] _ [.row .box (.agg 1) [netA ⟨[]⟩], .row .vrow (.agg 3) []] rfl ⟨LeAs.refl _, .cons (.row _ _ (.cons (.agg (.cons (.nils _) .nil)) .nil)) (.cons (.same _) .nil), 150, 0, [], Nat.zero_le _, rfl, Nat.zero_le _, by simp, rfl, rfl⟩
  · rintro m vs H ⟨i, way, hi, rfl, ha, hp, rfl, rfl⟩
    refine NB.dec (fun h1 => ?_) (fun h1 => ?_)
    · refine NB.dec (fun h2 => ?_) (fun h2 => ?_)
      · have hil : i < l.length := by simpa using h1
        have hb := hx _ (List.getElem_mem hil)
        refine NP.mk (by omega) (NG.mapN hil ?_)
        generalize l[i] = x at *
        obtain ⟨d, src, dst, k, b0⟩ := x
        have e : (b0.map u8).take (Int.toNat (min ((b0.map u8).length : Int) 100)) = (b0.take 100).map u8 := cut_map u8 b0 100
        have hb3 : (b0.take 100).length ≤ 100 := by simp; omega
        have hp' : ∀ p ∈ way, p.bytes.length ≤ 2 ^ 40 := fun p h => Nat.le_trans (hp p h) (by decide)
        have hsame : ∀ w : List Packet, w.length ≤ 64 → (∀ p ∈ w, p.bytes.length ≤ 100) → ACalls Try.prog Nm.ref18_Same [netA ⟨w⟩, netA ⟨w⟩] [] (.bool true) [] := fun w hw hq => by
          have := same18_walk ⟨w⟩ ⟨w⟩ (Nat.le_trans hw (by decide)) (fun p h => Nat.le_trans (hq p h) (by decide))
          rwa [decide_eq_true rfl] at this
        have hs0 := hsame way ha hp
        have hsnoc : ∀ p : Packet, way.length < 64 → p.bytes.length ≤ 100 → ACalls Try.prog Nm.ref18_Same [netA ⟨way ++ [p]⟩, .agg [.list (.agg 3) (way.map packetA ++ [packetA p])]] [] (.bool true) [] := fun p hw hq => by
          have h := hsame (way ++ [p]) (by simp; omega) (fun q hq' => by
              rcases List.mem_append.1 hq' with h | h
              · exact hp q h
              · rw [List.mem_singleton.1 h]; exact hq)
          have e : (way ++ [p]).map packetA = way.map packetA ++ [packetA p] := by simp
          rw [← e]
          exact h
        have fin0 : ∃ m', m' < 150 - i ∧ ∃ (i' : Nat) (way' : List Packet), i' ≤ 150 ∧ m' = 150 - i' ∧ way'.length ≤ 64 ∧ (∀ p ∈ way', p.bytes.length ≤ 100) ∧
            [Blk.row .box (.agg 1) [netA ⟨way⟩], .row .vrow (.agg 3) (way.map packetA)] = [Blk.row .box (.agg 1) [netA ⟨way'⟩], .row .vrow (.agg 3) (way'.map packetA)] ∧
            [netOps l, .ptr 0 0 0, .own 1 0 (way.map packetA).length, i64 ((i + 1 : Nat) : Int)] = [netOps l, .ptr 0 0 0, .own 1 0 (way'.map packetA).length, i64 i'] :=
          ⟨150 - (i + 1), by omega, i + 1, way, by omega, rfl, ha, hp, rfl, rfl⟩
        have fin1 : ∀ p q : Packet, q = p → way.length < 64 → p.bytes.length ≤ 100 → ∃ m', m' < 150 - i ∧ ∃ (i' : Nat) (way' : List Packet), i' ≤ 150 ∧ m' = 150 - i' ∧ way'.length ≤ 64 ∧ (∀ p ∈ way', p.bytes.length ≤ 100) ∧
            [Blk.row .box (.agg 1) [netA ⟨way ++ [p]⟩], .row .vrow (.agg 3) (way.map packetA ++ [packetA q])] = [Blk.row .box (.agg 1) [netA ⟨way'⟩], .row .vrow (.agg 3) (way'.map packetA)] ∧
            [netOps l, .ptr 0 0 0, .own 1 0 (way.map packetA ++ [packetA q]).length, i64 ((i + 1 : Nat) : Int)] = [netOps l, .ptr 0 0 0, .own 1 0 (way'.map packetA).length, i64 i'] := fun p q hpq hw hq => by
          rw [hpq]
          exact ⟨150 - (i + 1), by omega, i + 1, way ++ [p], by omega, rfl, by simp; omega, fun q hq' => by
              rcases List.mem_append.1 hq' with h | h
              · exact hp q h
              · rw [List.mem_singleton.1 h]; exact hq, by simp, by simp⟩
        refine NW.mk _ rfl ?_
        refine NP.mk (by omega) ?_
        generalize (IntKind.wrap .u64 d).tmod 4 = r at *
        by_cases h3 : r = 0 ∨ r = 1
        · have hse := send_walk ⟨way⟩ src dst (b0.take 100) (by simp; omega) hp' (by omega)
          by_cases h4 : way.length < 64
          · rw [if_pos h4] at hse
            have hs1 := hsnoc ⟨src, dst, b0.take 100⟩ h4 hb3
            rcases h3 with rfl | rfl
            · refine ND.yes (by omega) ?_
              refine NP.mk (by kernel_rfl) ?_
              apply NDr.rd [2]
              · intro fH TH
                exact ⟨rfl, rfl⟩
              apply NDr.rd [2]
              · intro fH TH
                exact ⟨rfl, rfl⟩
              apply NDr.rd [2]
              · intro fH TH
                exact ⟨rfl, rfl⟩
              apply NDr.rd [2]
              · intro fH TH
                exact ⟨rfl, rfl⟩
              apply NDr.rd [2]
              · intro fH TH
                exact ⟨rfl, rfl⟩
              apply NDr.rd [2]
              · intro fH TH
                exact ⟨rfl, rfl⟩
              apply NDr.rd [2]
              · intro fH TH
                exact ⟨rfl, rfl⟩
              apply NDr.rd [2]
              · intro fH TH
                exact ⟨rfl, rfl⟩
              apply NDr.pure
              · exact ⟨rfl, rfl⟩
              apply NDr.pure
              · exact ⟨rfl, rfl⟩
              apply NDr.pure
              · refine NP.mk (by omega) ?_
                rw [(e)]
                exact ⟨rfl, rfl⟩
              apply NDr.pure
              · exact ⟨rfl, rfl⟩
              apply NDr.efw []
              · exact ⟨rfl, rfl⟩
              · repeat (first | exact True.intro | refine ⟨by first | exact rfl | exact True.intro, ?_⟩)
              apply NDr.efw [3]
              · exact ⟨rfl, rfl⟩
              · repeat (first | exact True.intro | refine ⟨by first | exact rfl | exact True.intro, ?_⟩)
              refine NP.mk (by kernel_rfl) ?_
              refine NCall.call (hse) rfl rfl ?_
              refine ND.yes (by omega) ?_
              refine ND.yes (by (simp only [List.length_map, List.length_append, List.length_replicate, List.length_cons, List.length_nil, List.length_take, List.length_drop]; omega)) ?_
              refine ND.yes (by simp) ?_
              refine ND.yes (by omega) ?_
              refine NFz.own ?_
              refine NApp.endA rfl (by simp; omega) ?_
              refine NCall.lend (hs1) (.cons (.agg (.cons (.same _) .nil)) (.cons (.agg (.cons (.own trivial rfl (by simp) (by simp) (List.take_of_length_le (by simp)).symm) .nil)) .nil)) rfl rfl ?_
              refine NW.i64 (by omega) (by omega) ?_
              exact Canon.mk [0, 5] rfl (fin1 ⟨src, dst, b0.take 100⟩ ⟨src, dst, b0.take 100⟩ rfl h4 hb3)
            · refine ND.no (by omega) ?_
              refine ND.yes (by omega) ?_
              refine NP.mk (by kernel_rfl) ?_
              apply NDr.rd [2]
              · intro fH TH
                exact ⟨rfl, rfl⟩
              apply NDr.rd [2]
              · intro fH TH
                exact ⟨rfl, rfl⟩
              apply NDr.rd [2]
              · intro fH TH
                exact ⟨rfl, rfl⟩
              apply NDr.rd [2]
              · intro fH TH
                exact ⟨rfl, rfl⟩
              apply NDr.rd [2]
              · intro fH TH
                exact ⟨rfl, rfl⟩
              apply NDr.rd [2]
              · intro fH TH
                exact ⟨rfl, rfl⟩
              apply NDr.rd [2]
              · intro fH TH
                exact ⟨rfl, rfl⟩
              apply NDr.rd [2]
              · intro fH TH
                exact ⟨rfl, rfl⟩
              apply NDr.pure
              · exact ⟨rfl, rfl⟩
              apply NDr.pure
              · exact ⟨rfl, rfl⟩
              apply NDr.pure
              · refine NP.mk (by omega) ?_
                rw [(e)]
                exact ⟨rfl, rfl⟩
              apply NDr.pure
              · exact ⟨rfl, rfl⟩
              apply NDr.efw []
              · exact ⟨rfl, rfl⟩
              · repeat (first | exact True.intro | refine ⟨by first | exact rfl | exact True.intro, ?_⟩)
              apply NDr.efw [3]
              · exact ⟨rfl, rfl⟩
              · repeat (first | exact True.intro | refine ⟨by first | exact rfl | exact True.intro, ?_⟩)
              refine NP.mk (by kernel_rfl) ?_
              refine NCall.call (hse) rfl rfl ?_
              refine ND.yes (by omega) ?_
              refine ND.yes (by (simp only [List.length_map, List.length_append, List.length_replicate, List.length_cons, List.length_nil, List.length_take, List.length_drop]; omega)) ?_
              refine ND.yes (by simp) ?_
              refine ND.yes (by omega) ?_
              refine NFz.own ?_
              refine NApp.endA rfl (by simp; omega) ?_
              refine NCall.lend (hs1) (.cons (.agg (.cons (.same _) .nil)) (.cons (.agg (.cons (.own trivial rfl (by simp) (by simp) (List.take_of_length_le (by simp)).symm) .nil)) .nil)) rfl rfl ?_
              refine NW.i64 (by omega) (by omega) ?_
              exact Canon.mk [0, 5] rfl (fin1 ⟨src, dst, b0.take 100⟩ ⟨src, dst, b0.take 100⟩ rfl h4 hb3)
          · rw [if_neg h4] at hse
            rcases h3 with rfl | rfl
            · refine ND.yes (by omega) ?_
              refine NP.mk (by kernel_rfl) ?_
              apply NDr.rd [2]
              · intro fH TH
                exact ⟨rfl, rfl⟩
              apply NDr.rd [2]
              · intro fH TH
                exact ⟨rfl, rfl⟩
              apply NDr.rd [2]
              · intro fH TH
                exact ⟨rfl, rfl⟩
              apply NDr.rd [2]
              · intro fH TH
                exact ⟨rfl, rfl⟩
              apply NDr.rd [2]
              · intro fH TH
                exact ⟨rfl, rfl⟩
              apply NDr.rd [2]
              · intro fH TH
                exact ⟨rfl, rfl⟩
              apply NDr.rd [2]
              · intro fH TH
                exact ⟨rfl, rfl⟩
              apply NDr.rd [2]
              · intro fH TH
                exact ⟨rfl, rfl⟩
              apply NDr.pure
              · exact ⟨rfl, rfl⟩
              apply NDr.pure
              · exact ⟨rfl, rfl⟩
              apply NDr.pure
              · refine NP.mk (by omega) ?_
                rw [(e)]
                exact ⟨rfl, rfl⟩
              apply NDr.pure
              · exact ⟨rfl, rfl⟩
              apply NDr.efw []
              · exact ⟨rfl, rfl⟩
              · repeat (first | exact True.intro | refine ⟨by first | exact rfl | exact True.intro, ?_⟩)
              apply NDr.efw [3]
              · exact ⟨rfl, rfl⟩
              · repeat (first | exact True.intro | refine ⟨by first | exact rfl | exact True.intro, ?_⟩)
              refine NP.mk (by kernel_rfl) ?_
              refine NCall.call (hse) rfl rfl ?_
              refine ND.no (by omega) ?_
              refine ND.no (by (simp only [List.length_map, List.length_append, List.length_replicate, List.length_cons, List.length_nil, List.length_take, List.length_drop]; omega)) ?_
              refine ND.yes (by simp) ?_
              refine ND.no (by omega) ?_
              refine NCall.eq (by simp only [List.length_map] <;> exact rfl) ?_
              refine NCall.lend (hs0) (.cons (.agg (.cons (.same _) .nil)) (.cons (.agg (.cons (.own trivial rfl (by simp) (by simp) (by simp [List.take_of_length_le])) .nil)) .nil)) rfl rfl ?_
              refine NW.i64 (by omega) (by omega) ?_
              exact Canon.mk [0, 1] rfl fin0
            · refine ND.no (by omega) ?_
              refine ND.yes (by omega) ?_
              refine NP.mk (by kernel_rfl) ?_
              apply NDr.rd [2]
              · intro fH TH
                exact ⟨rfl, rfl⟩
              apply NDr.rd [2]
              · intro fH TH
                exact ⟨rfl, rfl⟩
              apply NDr.rd [2]
              · intro fH TH
                exact ⟨rfl, rfl⟩
              apply NDr.rd [2]
              · intro fH TH
                exact ⟨rfl, rfl⟩
              apply NDr.rd [2]
              · intro fH TH
                exact ⟨rfl, rfl⟩
              apply NDr.rd [2]
              · intro fH TH
                exact ⟨rfl, rfl⟩
              apply NDr.rd [2]
              · intro fH TH
                exact ⟨rfl, rfl⟩
              apply NDr.rd [2]
              · intro fH TH
                exact ⟨rfl, rfl⟩
              apply NDr.pure
              · exact ⟨rfl, rfl⟩
              apply NDr.pure
              · exact ⟨rfl, rfl⟩
              apply NDr.pure
              · refine NP.mk (by omega) ?_
                rw [(e)]
                exact ⟨rfl, rfl⟩
              apply NDr.pure
              · exact ⟨rfl, rfl⟩
              apply NDr.efw []
              · exact ⟨rfl, rfl⟩
              · repeat (first | exact True.intro | refine ⟨by first | exact rfl | exact True.intro, ?_⟩)
              apply NDr.efw [3]
              · exact ⟨rfl, rfl⟩
              · repeat (first | exact True.intro | refine ⟨by first | exact rfl | exact True.intro, ?_⟩)
              refine NP.mk (by kernel_rfl) ?_
              refine NCall.call (hse) rfl rfl ?_
              refine ND.no (by omega) ?_
              refine ND.no (by (simp only [List.length_map, List.length_append, List.length_replicate, List.length_cons, List.length_nil, List.length_take, List.length_drop]; omega)) ?_
              refine ND.yes (by simp) ?_
              refine ND.no (by omega) ?_
              refine NCall.eq (by simp only [List.length_map] <;> exact rfl) ?_
              refine NCall.lend (hs0) (.cons (.agg (.cons (.same _) .nil)) (.cons (.agg (.cons (.own trivial rfl (by simp) (by simp) (by simp [List.take_of_length_le])) .nil)) .nil)) rfl rfl ?_
              refine NW.i64 (by omega) (by omega) ?_
              exact Canon.mk [0, 1] rfl fin0
        · by_cases h4 : r = 2
          · subst h4
            have hta := take_walk ⟨way⟩ k (by simp; omega) hp'
            by_cases h5 : 0 ≤ k ∧ k.toNat < way.length
            · rw [dif_pos h5] at hta
              obtain ⟨k, rfl⟩ : ∃ j : Nat, k = j := ⟨k.toNat, by omega⟩
              simp only [Int.toNat_natCast] at *
              have hsp := samePacket_walk way[k] way[k] (hp' _ (List.getElem_mem h5.2))
              rw [decide_eq_true rfl] at hsp
              have hsp : ACalls Try.prog Nm.ref18_SamePacket [packetA way[k], packetA (way[0 + (k : Int).toNat]'(by simp; omega))] [] (.bool true) [] := by simpa using hsp
              have hs1 := hsame (way.take k ++ way.drop (k + 1)) (by simp; omega) (fun q hq => by
                rcases List.mem_append.1 hq with h | h
                · exact hp q (List.mem_of_mem_take h)
                · exact hp q (List.mem_of_mem_drop h))
              have fin2 : ∀ X : List AV, X = (way.take k ++ way.drop (k + 1)).map packetA → ∃ m', m' < 150 - i ∧ ∃ (i' : Nat) (way' : List Packet), i' ≤ 150 ∧ m' = 150 - i' ∧ way'.length ≤ 64 ∧ (∀ p ∈ way', p.bytes.length ≤ 100) ∧
                  [Blk.row .box (.agg 1) [netA ⟨way.take k ++ way.drop (k + 1)⟩], .row .vrow (.agg 3) X] = [Blk.row .box (.agg 1) [netA ⟨way'⟩], .row .vrow (.agg 3) (way'.map packetA)] ∧
                  [netOps l, .ptr 0 0 0, .own 1 0 X.length, i64 ((i + 1 : Nat) : Int)] = [netOps l, .ptr 0 0 0, .own 1 0 (way'.map packetA).length, i64 i'] := fun X hX => by
                rw [hX]
                exact ⟨150 - (i + 1), by omega, i + 1, way.take k ++ way.drop (k + 1), by omega, rfl, by simp; omega, fun q hq => by
                  rcases List.mem_append.1 hq with h | h
                  · exact hp q (List.mem_of_mem_take h)
                  · exact hp q (List.mem_of_mem_drop h), rfl, rfl⟩
              have ek : ((k : Int) + 1).toNat = k + 1 := by omega
              have h8 : (List.drop (k + 1) (way.map packetA)).length ≤ (way.map packetA).length - (k + 1) := by simp
              by_cases h7 : k + 1 < way.length
              · refine ND.no (by omega) ?_
                refine ND.no (by omega) ?_
                refine ND.yes (by omega) ?_
                refine NCall.call (hta) rfl rfl ?_
                refine ND.yes (by omega) ?_
                refine ND.yes (by (simp only [List.length_map, List.length_append, List.length_replicate, List.length_cons, List.length_nil, List.length_take, List.length_drop]; omega)) ?_
                refine ND.yes (by (simp only [List.length_map, List.length_append, List.length_replicate, List.length_cons, List.length_nil, List.length_take, List.length_drop]; omega)) ?_
                refine ND.yes (by simp) ?_
                refine ND.yes (by omega) ?_
                refine NP.mk (by kernel_rfl) ?_
                apply NDr.rd [3]
                · intro fH TH
                  exact ⟨rfl, rfl⟩
                apply NDr.any
                · intro H'
                  exact ⟨rfl, rfl⟩
                apply NDr.rd [2]
                · intro fH TH
                  exact ⟨rfl, rfl⟩
                apply NDr.rd [2]
                · intro fH TH
                  exact ⟨rfl, rfl⟩
                apply NDr.rd [1]
                · intro fH TH
                  refine NP.mk (by (simp only [List.length_map, List.length_append, List.length_replicate, List.length_cons, List.length_nil, List.length_take, List.length_drop]; omega)) ?_
                  exact ⟨rfl, rfl⟩
                apply NDr.rd [1]
                · intro fH TH
                  refine NG.mapN (by (simp only [List.length_map, List.length_append, List.length_replicate, List.length_cons, List.length_nil, List.length_take, List.length_drop]; omega)) ?_
                  exact ⟨rfl, rfl⟩
                apply NDr.pure
                · refine NCall.call (hsp) rfl rfl ?_
                  exact ⟨rfl, rfl⟩
                apply NDr.pure
                · exact ⟨rfl, rfl⟩
                refine NP.mk (by kernel_rfl) ?_
                refine NP.mk (by kernel_rfl) ?_
                apply NDr.efw []
                · exact ⟨rfl, rfl⟩
                · repeat (first | exact True.intro | refine ⟨by first | exact rfl | exact True.intro, ?_⟩)
                apply NDr.any
                · intro H'
                  exact ⟨rfl, rfl⟩
                apply NDr.rd [2]
                · intro fH TH
                  exact ⟨rfl, rfl⟩
                apply NDr.rd [2]
                · intro fH TH
                  exact ⟨rfl, rfl⟩
                apply NDr.rd [1]
                · intro fH TH
                  refine NP.mk (by (simp only [List.length_map, List.length_append, List.length_replicate, List.length_cons, List.length_nil, List.length_take, List.length_drop]; omega)) ?_
                  exact ⟨rfl, rfl⟩
                apply NDr.efw [5]
                · refine NFz.own ?_
                  refine NP.mk (by (simp only [List.length_map, List.length_append, List.length_replicate, List.length_cons, List.length_nil, List.length_take, List.length_drop]; omega)) ?_
                  refine NApp.endA rfl (by simp; omega) ?_
                  exact ⟨rfl, rfl⟩
                · repeat (first | exact True.intro | refine ⟨by first | exact rfl | exact True.intro, ?_⟩)
                apply NDr.any
                · intro H'
                  exact ⟨rfl, rfl⟩
                apply NDr.rd [2]
                · intro fH TH
                  exact ⟨rfl, rfl⟩
                apply NDr.rd [2]
                · intro fH TH
                  exact ⟨rfl, rfl⟩
                apply NDr.pure
                · refine NW.i64 (by (simp only [List.length_map, List.length_append, List.length_replicate, List.length_cons, List.length_nil, List.length_take, List.length_drop]; omega)) (by (simp only [List.length_map, List.length_append, List.length_replicate, List.length_cons, List.length_nil, List.length_take, List.length_drop]; omega)) ?_
                  exact ⟨rfl, rfl⟩
                apply NDr.rd [1]
                · intro fH TH
                  refine NSl.mid (by simp only [List.length_map, List.length_append, List.length_replicate, List.length_cons, List.length_nil, List.length_take, List.length_drop]; omega) ?_
                  exact ⟨rfl, rfl⟩
                apply NDr.efw [6]
                · refine NFz.own ?_
                  refine NP.mk (by (simp only [List.length_map, List.length_append, List.length_replicate, List.length_cons, List.length_nil, List.length_take, List.length_drop]; omega)) ?_
                  refine NApp.endA rfl (by simp; omega) ?_
                  exact ⟨rfl, rfl⟩
                · repeat (first | exact True.intro | refine ⟨by first | exact rfl | exact True.intro, ?_⟩)
                apply NDr.any
                · intro H'
                  exact ⟨rfl, rfl⟩
                refine NP.mk (by kernel_rfl) ?_
                refine NCall.eq (by simp only [List.length_map] <;> exact rfl) ?_
                refine NCall.lend (hs1) (.cons (.agg (.cons (.same _) .nil)) (.cons (.agg (.cons (.own trivial rfl (by simp) (by simp) (by simp [List.take_of_length_le])) .nil)) .nil)) rfl rfl ?_
                refine NW.i64 (by omega) (by omega) ?_
                exact Canon.mk [0, 7] rfl (fin2 (List.take ((k : Int)).toNat (way.map packetA) ++ List.take ((way.map packetA).length - ((k : Int) + 1).toNat) (List.drop (0 + ((k : Int) + 1).toNat) (way.map packetA))) (by rw [List.map_append, List.map_take, List.map_drop, Int.toNat_natCast, ek, Nat.zero_add, List.take_of_length_le h8]))
              · have hd : List.drop (k + 1) way = [] := List.drop_eq_nil_of_le (by omega)
                have e7 : (way.take k ++ way.drop (k + 1)).map packetA = List.take (k : Int).toNat (way.map packetA) ++ [] := by
                  rw [hd, List.append_nil, List.append_nil, List.map_take, Int.toNat_natCast]
                have hs1 : ACalls Try.prog Nm.ref18_Same [netA ⟨way.take k ++ way.drop (k + 1)⟩, .agg [.list (.agg 3) (List.take (k : Int).toNat (way.map packetA) ++ [])]] [] (.bool true) [] := by
                  rw [← e7]; exact hs1
                refine ND.no (by omega) ?_
                refine ND.no (by omega) ?_
                refine ND.yes (by omega) ?_
                refine NCall.call (hta) rfl rfl ?_
                refine ND.yes (by omega) ?_
                refine ND.yes (by (simp only [List.length_map, List.length_append, List.length_replicate, List.length_cons, List.length_nil, List.length_take, List.length_drop]; omega)) ?_
                refine ND.yes (by (simp only [List.length_map, List.length_append, List.length_replicate, List.length_cons, List.length_nil, List.length_take, List.length_drop]; omega)) ?_
                refine ND.yes (by simp) ?_
                refine ND.yes (by omega) ?_
                refine NP.mk (by kernel_rfl) ?_
                apply NDr.rd [3]
                · intro fH TH
                  exact ⟨rfl, rfl⟩
                apply NDr.any
                · intro H'
                  exact ⟨rfl, rfl⟩
                apply NDr.rd [2]
                · intro fH TH
                  exact ⟨rfl, rfl⟩
                apply NDr.rd [2]
                · intro fH TH
                  exact ⟨rfl, rfl⟩
                apply NDr.rd [1]
                · intro fH TH
                  refine NP.mk (by (simp only [List.length_map, List.length_append, List.length_replicate, List.length_cons, List.length_nil, List.length_take, List.length_drop]; omega)) ?_
                  exact ⟨rfl, rfl⟩
                apply NDr.rd [1]
                · intro fH TH
                  refine NG.mapN (by (simp only [List.length_map, List.length_append, List.length_replicate, List.length_cons, List.length_nil, List.length_take, List.length_drop]; omega)) ?_
                  exact ⟨rfl, rfl⟩
                apply NDr.pure
                · refine NCall.call (hsp) rfl rfl ?_
                  exact ⟨rfl, rfl⟩
                apply NDr.pure
                · exact ⟨rfl, rfl⟩
                refine NP.mk (by kernel_rfl) ?_
                refine NP.mk (by kernel_rfl) ?_
                apply NDr.efw []
                · exact ⟨rfl, rfl⟩
                · repeat (first | exact True.intro | refine ⟨by first | exact rfl | exact True.intro, ?_⟩)
                apply NDr.any
                · intro H'
                  exact ⟨rfl, rfl⟩
                apply NDr.rd [2]
                · intro fH TH
                  exact ⟨rfl, rfl⟩
                apply NDr.rd [2]
                · intro fH TH
                  exact ⟨rfl, rfl⟩
                apply NDr.rd [1]
                · intro fH TH
                  refine NP.mk (by (simp only [List.length_map, List.length_append, List.length_replicate, List.length_cons, List.length_nil, List.length_take, List.length_drop]; omega)) ?_
                  exact ⟨rfl, rfl⟩
                apply NDr.efw [5]
                · refine NFz.own ?_
                  refine NP.mk (by (simp only [List.length_map, List.length_append, List.length_replicate, List.length_cons, List.length_nil, List.length_take, List.length_drop]; omega)) ?_
                  refine NApp.endA rfl (by simp; omega) ?_
                  exact ⟨rfl, rfl⟩
                · repeat (first | exact True.intro | refine ⟨by first | exact rfl | exact True.intro, ?_⟩)
                apply NDr.any
                · intro H'
                  exact ⟨rfl, rfl⟩
                apply NDr.rd [2]
                · intro fH TH
                  exact ⟨rfl, rfl⟩
                apply NDr.rd [2]
                · intro fH TH
                  exact ⟨rfl, rfl⟩
                apply NDr.pure
                · refine NW.i64 (by (simp only [List.length_map, List.length_append, List.length_replicate, List.length_cons, List.length_nil, List.length_take, List.length_drop]; omega)) (by (simp only [List.length_map, List.length_append, List.length_replicate, List.length_cons, List.length_nil, List.length_take, List.length_drop]; omega)) ?_
                  exact ⟨rfl, rfl⟩
                apply NDr.rd [1]
                · intro fH TH
                  refine NSl.fin (by (simp only [List.length_map, List.length_append, List.length_replicate, List.length_cons, List.length_nil, List.length_take, List.length_drop]; omega)) ?_
                  exact ⟨rfl, rfl⟩
                apply NDr.efw [6]
                · refine NFz.own ?_
                  refine NApp.endA rfl (by simp; omega) ?_
                  exact ⟨rfl, rfl⟩
                · repeat (first | exact True.intro | refine ⟨by first | exact rfl | exact True.intro, ?_⟩)
                apply NDr.any
                · intro H'
                  exact ⟨rfl, rfl⟩
                refine NP.mk (by kernel_rfl) ?_
                refine NCall.lend (hs1) (.cons (.agg (.cons (.same _) .nil)) (.cons (.agg (.cons (.own trivial rfl (by simp) (by simp) (by simp [List.take_of_length_le])) .nil)) .nil)) rfl rfl ?_
                refine NW.i64 (by omega) (by omega) ?_
                exact Canon.mk [0, 7] rfl (fin2 (List.take (k : Int).toNat (way.map packetA) ++ []) e7.symm)
            · rw [dif_neg h5] at hta
              by_cases h6 : k < 0
              · refine ND.no (by omega) ?_
                refine ND.no (by omega) ?_
                refine ND.yes (by omega) ?_
                refine NCall.call (hta) rfl rfl ?_
                refine ND.no (by omega) ?_
                refine ND.no (by (simp only [List.length_map, List.length_append, List.length_replicate, List.length_cons, List.length_nil, List.length_take, List.length_drop]; omega)) ?_
                refine ND.yes (by simp) ?_
                refine ND.no (by omega) ?_
                refine NCall.eq (by simp only [List.length_map] <;> exact rfl) ?_
                refine NCall.lend (hs0) (.cons (.agg (.cons (.same _) .nil)) (.cons (.agg (.cons (.own trivial rfl (by simp) (by simp) (by simp [List.take_of_length_le])) .nil)) .nil)) rfl rfl ?_
                refine NW.i64 (by omega) (by omega) ?_
                exact Canon.mk [0, 1] rfl fin0
              · refine ND.no (by omega) ?_
                refine ND.no (by omega) ?_
                refine ND.yes (by omega) ?_
                refine NCall.call (hta) rfl rfl ?_
                refine ND.no (by omega) ?_
                refine ND.yes (by (simp only [List.length_map, List.length_append, List.length_replicate, List.length_cons, List.length_nil, List.length_take, List.length_drop]; omega)) ?_
                refine ND.no (by (simp only [List.length_map, List.length_append, List.length_replicate, List.length_cons, List.length_nil, List.length_take, List.length_drop]; omega)) ?_
                refine ND.yes (by simp) ?_
                refine ND.no (by omega) ?_
                refine NCall.eq (by simp only [List.length_map] <;> exact rfl) ?_
                refine NCall.lend (hs0) (.cons (.agg (.cons (.same _) .nil)) (.cons (.agg (.cons (.own trivial rfl (by simp) (by simp) (by simp [List.take_of_length_le])) .nil)) .nil)) rfl rfl ?_
                refine NW.i64 (by omega) (by omega) ?_
                exact Canon.mk [0, 1] rfl fin0
          · have htw := twice_walk ⟨way⟩ k (by simp; omega) hp'
            by_cases h5 : 0 ≤ k ∧ k.toNat < way.length
            · rw [dif_pos h5] at htw
              obtain ⟨k, rfl⟩ : ∃ j : Nat, k = j := ⟨k.toNat, by omega⟩
              simp only [Int.toNat_natCast] at *
              by_cases h6 : way.length < 64
              · rw [if_pos h6] at htw
                have hs1 := hsnoc way[k] h6 (hp _ (List.getElem_mem h5.2))
                have hs1 : ACalls Try.prog Nm.ref18_Same [netA ⟨way ++ [way[k]]⟩, .agg [.list (.agg 3) (way.map packetA ++ [packetA (way[0 + (k : Int).toNat]'(by simp; omega))])]] [] (.bool true) [] := by simpa using hs1
                refine ND.no (by omega) ?_
                refine ND.no (by omega) ?_
                refine ND.no (by omega) ?_
                refine NCall.call (htw) rfl rfl ?_
                refine ND.yes (by omega) ?_
                refine ND.yes (by (simp only [List.length_map, List.length_append, List.length_replicate, List.length_cons, List.length_nil, List.length_take, List.length_drop]; omega)) ?_
                refine ND.yes (by (simp only [List.length_map, List.length_append, List.length_replicate, List.length_cons, List.length_nil, List.length_take, List.length_drop]; omega)) ?_
                refine ND.yes (by (simp only [List.length_map, List.length_append, List.length_replicate, List.length_cons, List.length_nil, List.length_take, List.length_drop]; omega)) ?_
                refine ND.yes (by simp) ?_
                refine ND.yes (by omega) ?_
                refine NP.mk (by (simp only [List.length_map, List.length_append, List.length_replicate, List.length_cons, List.length_nil, List.length_take, List.length_drop]; omega)) ?_
                refine NG.mapN (by (simp only [List.length_map, List.length_append, List.length_replicate, List.length_cons, List.length_nil, List.length_take, List.length_drop]; omega)) ?_
                refine NFz.own ?_
                refine NApp.endA rfl (by simp; omega) ?_
                refine NCall.lend (hs1) (.cons (.agg (.cons (.same _) .nil)) (.cons (.agg (.cons (.own trivial rfl (by simp) (by simp) (List.take_of_length_le (by simp)).symm) .nil)) .nil)) rfl rfl ?_
                refine NW.i64 (by omega) (by omega) ?_
                exact Canon.mk [0, 4] rfl (fin1 way[k] (way[0 + (k : Int).toNat]'(by simp; omega)) (by simp) h6 (hp _ (List.getElem_mem h5.2)))
              · rw [if_neg h6] at htw
                refine ND.no (by omega) ?_
                refine ND.no (by omega) ?_
                refine ND.no (by omega) ?_
                refine NCall.call (htw) rfl rfl ?_
                refine ND.no (by omega) ?_
                refine ND.yes (by (simp only [List.length_map, List.length_append, List.length_replicate, List.length_cons, List.length_nil, List.length_take, List.length_drop]; omega)) ?_
                refine ND.yes (by (simp only [List.length_map, List.length_append, List.length_replicate, List.length_cons, List.length_nil, List.length_take, List.length_drop]; omega)) ?_
                refine ND.no (by (simp only [List.length_map, List.length_append, List.length_replicate, List.length_cons, List.length_nil, List.length_take, List.length_drop]; omega)) ?_
                refine ND.yes (by simp) ?_
                refine ND.no (by omega) ?_
                refine NCall.eq (by simp only [List.length_map] <;> exact rfl) ?_
                refine NCall.lend (hs0) (.cons (.agg (.cons (.same _) .nil)) (.cons (.agg (.cons (.own trivial rfl (by simp) (by simp) (by simp [List.take_of_length_le])) .nil)) .nil)) rfl rfl ?_
                refine NW.i64 (by omega) (by omega) ?_
                exact Canon.mk [0, 1] rfl fin0
            · rw [dif_neg h5] at htw
              by_cases h6 : k < 0
              · refine ND.no (by omega) ?_
                refine ND.no (by omega) ?_
                refine ND.no (by omega) ?_
                refine NCall.call (htw) rfl rfl ?_
                refine ND.no (by omega) ?_
                refine ND.no (by (simp only [List.length_map, List.length_append, List.length_replicate, List.length_cons, List.length_nil, List.length_take, List.length_drop]; omega)) ?_
                refine ND.yes (by simp) ?_
                refine ND.no (by omega) ?_
                refine NCall.eq (by simp only [List.length_map] <;> exact rfl) ?_
                refine NCall.lend (hs0) (.cons (.agg (.cons (.same _) .nil)) (.cons (.agg (.cons (.own trivial rfl (by simp) (by simp) (by simp [List.take_of_length_le])) .nil)) .nil)) rfl rfl ?_
                refine NW.i64 (by omega) (by omega) ?_
                exact Canon.mk [0, 1] rfl fin0
              · refine ND.no (by omega) ?_
                refine ND.no (by omega) ?_
                refine ND.no (by omega) ?_
                refine NCall.call (htw) rfl rfl ?_
                refine ND.no (by omega) ?_
                refine ND.yes (by (simp only [List.length_map, List.length_append, List.length_replicate, List.length_cons, List.length_nil, List.length_take, List.length_drop]; omega)) ?_
                refine ND.no (by (simp only [List.length_map, List.length_append, List.length_replicate, List.length_cons, List.length_nil, List.length_take, List.length_drop]; omega)) ?_
                refine ND.yes (by simp) ?_
                refine ND.no (by omega) ?_
                refine NCall.eq (by simp only [List.length_map] <;> exact rfl) ?_
                refine NCall.lend (hs0) (.cons (.agg (.cons (.same _) .nil)) (.cons (.agg (.cons (.own trivial rfl (by simp) (by simp) (by simp [List.take_of_length_le])) .nil)) .nil)) rfl rfl ?_
                refine NW.i64 (by omega) (by omega) ?_
                exact Canon.mk [0, 1] rfl fin0
      · exact NRet.mk [] rfl ⟨.refl _, rfl⟩
    · exact NRet.mk [] rfl ⟨.refl _, rfl⟩
end Go.Bv
