/- Part of the lift: an abstract walk of the program's code, proved sound, and what it shows of this program. -/
import Derived.Test.YtegjfgodmenagaaSvTyp
namespace Go.Bv
set_option linter.unusedSimpArgs false
set_option linter.unusedVariables false
set_option maxHeartbeats 4000000
open Go Go.Proofs

theorem delete_alg {α : Type} (es : List α) (i j : Nat) (z : α) (hi : i < j) (hj : j ≤ es.length) :
    es.take i ++ es.drop j ++ List.replicate (j - i) z = (es.take i ++ (es.drop j ++ es.drop (i + (es.length - j)))).take (i + (es.length - j)) ++ (List.replicate (es.length - (i + (es.length - j))) z ++ (es.take i ++ (es.drop j ++ es.drop (i + (es.length - j)))).drop (i + (es.length - j) + (es.length - (i + (es.length - j))))) := by
  have h1 : (es.take i ++ (es.drop j ++ es.drop (i + (es.length - j)))).take (i + (es.length - j)) = es.take i ++ es.drop j := by
    rw [← List.append_assoc, List.take_left' (by simp; omega)]
  have h2 : (es.take i ++ (es.drop j ++ es.drop (i + (es.length - j)))).drop (i + (es.length - j) + (es.length - (i + (es.length - j)))) = [] := List.drop_eq_nil_of_le (by simp; omega)
  rw [h1, h2, List.append_nil, show es.length - (i + (es.length - j)) = j - i by omega]

theorem deleteP_walk (es : List AV) (i j : Nat) (hi : i < j) (hj : j ≤ es.length) (hb : es.length ≤ 2 ^ 40) : ACalls Try.prog Nm.slices_Delete_api_Packet_api_Packet [.own 0 0 es.length, i64 i, i64 j] [.row .vrow (.agg 3) es]
    (.own 0 0 (i + (es.length - j))) [.row .vrow (.agg 3) (es.take i ++ es.drop j ++ List.replicate (j - i) (.agg [i64 0, i64 0, .nils]))] := by
  refine ACalls_of tab (dr_snd tab mixed) Nm.slices_Delete_api_Packet_api_Packet_h rfl (by kernel_rfl) (Nat.le_of_ble_eq_true rfl) rfl ?_
  by_cases hje : j < es.length
  · refine NP.mk (by omega) ?_
    refine ND.no (by omega) ?_
    refine NP.mk (by kernel_rfl) ?_
    apply NDr.any
    · intro H'
      exact ⟨rfl, rfl⟩
    apply NDr.pure
    · exact ⟨rfl, rfl⟩
    apply NDr.rd [0]
    · intro fH TH
      refine NP.mk (by omega) ?_
      exact ⟨rfl, rfl⟩
    apply NDr.any
    · intro H'
      exact ⟨rfl, rfl⟩
    apply NDr.pure
    · exact ⟨rfl, rfl⟩
    apply NDr.rd [0]
    · intro fH TH
      refine NSl.mid (by omega) ?_
      exact ⟨rfl, rfl⟩
    apply NDr.efw [0, 0]
    · refine NFz.own ?_
      refine NP.mk (by omega) ?_
      refine NApp.inA (by (simp only [List.length_map, List.length_append, List.length_replicate, List.length_cons, List.length_nil, List.length_take, List.length_drop]; omega)) ?_
      exact ⟨rfl, rfl⟩
    · repeat (first | exact True.intro | refine ⟨by first | exact rfl | exact True.intro, ?_⟩)
    apply NDr.any
    · intro H'
      exact ⟨rfl, rfl⟩
    refine NP.mk (by kernel_rfl) ?_
    refine NP.mk (by (simp only [List.length_map, List.length_append, List.length_replicate, List.length_cons, List.length_nil, List.length_take, List.length_drop]; omega)) ?_
    refine NSl.mid (by simp only [List.length_map, List.length_append, List.length_replicate, List.length_cons, List.length_nil, List.length_take, List.length_drop]; omega) ?_
    have hx : (es.drop j).take (es.length - j) = es.drop j := List.take_of_length_le (by simp)
    have hxl : (es.drop j).length = es.length - j := List.length_drop
    refine NRet.mk [] rfl ⟨?_, ?_⟩
    · simp only [Int.toNat_natCast, Nat.zero_add, hx, hxl]; exact .refl _
    · simp only [Int.toNat_natCast, Nat.zero_add, hx, hxl]
      exact congrArg (fun l => [Blk.row .vrow (.agg 3) l]) (delete_alg es i j _ hi hj)
  · refine NP.mk (by omega) ?_
    refine ND.no (by omega) ?_
    refine NP.mk (by kernel_rfl) ?_
    apply NDr.any
    · intro H'
      exact ⟨rfl, rfl⟩
    apply NDr.pure
    · exact ⟨rfl, rfl⟩
    apply NDr.rd [0]
    · intro fH TH
      refine NP.mk (by omega) ?_
      exact ⟨rfl, rfl⟩
    apply NDr.any
    · intro H'
      exact ⟨rfl, rfl⟩
    apply NDr.pure
    · exact ⟨rfl, rfl⟩
    apply NDr.rd [0]
    · intro fH TH
      refine NSl.fin (by omega) ?_
      exact ⟨rfl, rfl⟩
    apply NDr.efw [0]
    · refine NFz.own ?_
      refine NApp.inA (by (simp only [List.length_map, List.length_append, List.length_replicate, List.length_cons, List.length_nil, List.length_take, List.length_drop]; omega)) ?_
      exact ⟨rfl, rfl⟩
    · repeat (first | exact True.intro | refine ⟨by first | exact rfl | exact True.intro, ?_⟩)
    apply NDr.any
    · intro H'
      exact ⟨rfl, rfl⟩
    refine NP.mk (by kernel_rfl) ?_
    refine NP.mk (by (simp only [List.length_map, List.length_append, List.length_replicate, List.length_cons, List.length_nil, List.length_take, List.length_drop]; omega)) ?_
    refine NSl.mid (by simp only [List.length_map, List.length_append, List.length_replicate, List.length_cons, List.length_nil, List.length_take, List.length_drop]; omega) ?_
    have hj' : es.length - j = 0 := by omega
    refine NRet.mk [] rfl ⟨?_, ?_⟩
    · simp only [Int.toNat_natCast, Nat.zero_add, hj', Nat.add_zero]; exact .refl _
    · simp only [Int.toNat_natCast, Nat.zero_add, Nat.add_zero]
      have := delete_alg es i j (AV.agg [i64 0, i64 0, .nils]) hi hj
      rw [hj', Nat.add_zero, List.drop_eq_nil_of_le (show es.length ≤ j by omega), List.nil_append, List.append_nil] at this
      rw [List.drop_eq_nil_of_le (show es.length ≤ j by omega), List.append_nil]
      exact congrArg (fun l => [Blk.row .vrow (.agg 3) l]) this

theorem copiedP_walk (p : Packet) (hb : p.bytes.length ≤ 2 ^ 40) : ACalls Try.prog Nm.net_copied [packetA p] [] (packetA p) [] := by
  refine ACalls_of tab (dr_snd tab mixed) Nm.net_copied_h rfl (by kernel_rfl) (Nat.le_of_ble_eq_true rfl) rfl ?_
  refine NCall.call (cloneB_list p.bytes (by omega)) rfl rfl ?_
  exact NRet.mk [] rfl ⟨.refl _, rfl⟩

theorem all_walk (l : List Packet) (hl : l.length ≤ 2 ^ 40) (hb : ∀ p ∈ l, p.bytes.length ≤ 2 ^ 40) : ACalls Try.prog Nm.net_all [packetsA l] [] (.own 0 0 l.length) [.row .vrow (.agg 3) (l.map packetA)] := by
  refine ACalls_of tab (dr_snd tab mixed) Nm.net_all_h rfl (by kernel_rfl) (Nat.le_of_ble_eq_true rfl) rfl ?_
  refine NLoop.mk [(3, .agg 3)] [6, 7, 8, 3] (fun m vs H => ∃ i, i ≤ l.length ∧ m = l.length - i ∧ H = [.row .vrow (.agg 3) ((l.take i).map packetA)] ∧ vs = [packetsA l, i64 l.length, i64 i, .own 0 0 ((l.take i).map packetA).length]) rfl ?_ ?_
  · exact Canon.mk [0] rfl ⟨l.length, 0, Nat.zero_le _, rfl, rfl, by simp [packetsA, i64]⟩
  · rintro m vs H ⟨i, hi, rfl, rfl, rfl⟩
    refine NB.dec (fun h => ?_) (fun h => ?_)
    · have hil : i < l.length := by omega
      have hc := copiedP_walk l[i] (hb _ (List.getElem_mem hil))
      refine NP.mk (by omega) ?_
      refine NG.mapN (by omega) ?_
      refine NCall.call (hc) rfl rfl ?_
      refine NFz.own ?_
      refine NApp.endA rfl (by simp; omega) ?_
      refine NW.i64 (by omega) (by omega) ?_
      refine Canon.mk [2] rfl ⟨l.length - (i + 1), by omega, i + 1, by omega, rfl, ?_, ?_⟩ <;> rw [snocMap packetA l hil] <;> rfl
    · have : i = l.length := by omega
      subst this
      rw [List.take_length]
      skip
      exact NRet.mk [0] rfl ⟨by rw [List.length_map]; exact .refl _, rfl⟩

theorem send_walk (n : Net) (src dst : Int) (b : List UInt8) (hl : n.way.length ≤ 2 ^ 40) (hx : ∀ p ∈ n.way, p.bytes.length ≤ 2 ^ 40) (hb : b.length ≤ 2 ^ 40) : ACalls Try.prog Nm.net_Send [netA n, i64 src, i64 dst, bytes b] []
    (if n.way.length < 64 then .tup [netA ⟨n.way ++ [⟨src, dst, b⟩]⟩, i64 0] else .tup [netA ⟨[]⟩, i64 6]) [] := by
  refine ACalls_of tab (dr_snd tab mixed) Nm.net_Send_h rfl (by kernel_rfl) (Nat.le_of_ble_eq_true rfl) rfl ?_
  have hc := copiedP_walk ⟨src, dst, b⟩ hb
  by_cases h : n.way.length < 64
  · rw [if_pos h]
    refine ND.no (by (simp only [List.length_map, List.length_append, List.length_replicate, List.length_cons, List.length_nil, List.length_take, List.length_drop]; omega)) ?_
    refine NCall.atA (ACalls.frame (all_walk n.way hl hx) rfl _) ?_
    refine NCall.call (hc) rfl rfl ?_
    refine NFz.own ?_
    refine NApp.endA (by simp) (by simp; omega) ?_
    exact NRet.mk [] rfl (NFrz.mk ((n.way ++ [(⟨src, dst, b⟩ : Packet)]).map packetA) (by simp) (by rw [List.drop_zero, List.take_length, List.map_append]; rfl) ⟨.refl _, rfl⟩)
  · rw [if_neg h]
    refine ND.yes (by (simp only [List.length_map, List.length_append, List.length_replicate, List.length_cons, List.length_nil, List.length_take, List.length_drop]; omega)) ?_
    exact NRet.mk [] rfl ⟨by repeat (first | exact LeA.refl _ | exact LeA.nils _ | refine LeA.agg ?_ | refine LeA.tup ?_ | exact LeAs.nil | refine LeAs.cons ?_ ?_), rfl⟩

theorem take_walk (n : Net) (i : Int) (hl : n.way.length ≤ 2 ^ 40) (hx : ∀ p ∈ n.way, p.bytes.length ≤ 2 ^ 40) : ACalls Try.prog Nm.net_Take [netA n, i64 i] []
    (if h : 0 ≤ i ∧ i.toNat < n.way.length then .tup [packetA n.way[i.toNat], netA ⟨n.way.take i.toNat ++ n.way.drop (i.toNat + 1)⟩, i64 0] else .tup [packetA ⟨0, 0, []⟩, netA ⟨[]⟩, i64 10]) [] := by
  refine ACalls_of tab (dr_snd tab mixed) Nm.net_Take_h rfl (by kernel_rfl) (Nat.le_of_ble_eq_true rfl) rfl ?_
  by_cases h : 0 ≤ i ∧ i.toNat < n.way.length
  · rw [dif_pos h]
    obtain ⟨i, rfl⟩ : ∃ k : Nat, i = k := ⟨i.toNat, by omega⟩
    have hil : i < n.way.length := by omega
    have hc := copiedP_walk n.way[i] (hx _ (List.getElem_mem hil))
    have hd := deleteP_walk (n.way.map packetA) i (i + 1) (by omega) (by simp; omega) (by simp; omega)
    rw [List.length_map] at hd
    refine ND.no (by omega) ?_
    refine ND.no (by (simp only [List.length_map, List.length_append, List.length_replicate, List.length_cons, List.length_nil, List.length_take, List.length_drop]; omega)) ?_
    refine NP.mk (by kernel_rfl) ?_
    apply NDr.rd [0]
    · intro fH TH
      exact ⟨rfl, rfl⟩
    apply NDr.rd [0]
    · intro fH TH
      exact ⟨rfl, rfl⟩
    apply NDr.pure
    · exact ⟨rfl, rfl⟩
    apply NDr.pure
    · refine NP.mk (by omega) ?_
      refine NG.mapN (by omega) ?_
      exact ⟨rfl, rfl⟩
    apply NDr.pure
    · exact ⟨rfl, rfl⟩
    apply NDr.pure
    · refine NCall.call (hc) rfl rfl ?_
      exact ⟨rfl, rfl⟩
    apply NDr.rd [0]
    · intro fH TH
      exact ⟨rfl, rfl⟩
    apply NDr.rd [0]
    · intro fH TH
      exact ⟨rfl, rfl⟩
    apply NDr.efw []
    · refine NCall.atA (ACalls.frame (all_walk n.way hl hx) rfl _) ?_
      exact ⟨rfl, rfl⟩
    · repeat (first | exact True.intro | refine ⟨by first | exact rfl | exact True.intro, ?_⟩)
    apply NDr.pure
    · exact ⟨rfl, rfl⟩
    apply NDr.pure
    · exact ⟨rfl, rfl⟩
    apply NDr.pure
    · refine NW.i64 (by omega) (by omega) ?_
      exact ⟨rfl, rfl⟩
    apply NDr.efw [3]
    · refine NCall.subA [3] (hd) ?_
      exact ⟨rfl, rfl⟩
    · repeat (first | exact True.intro | refine ⟨by first | exact rfl | exact True.intro, ?_⟩)
    apply NDr.any
    · intro H'
      exact ⟨rfl, rfl⟩
    apply NDr.efw [1]
    · exact ⟨rfl, rfl⟩
    · repeat (first | exact True.intro | refine ⟨by first | exact rfl | exact True.intro, ?_⟩)
    apply NDr.efw [2, 3]
    · exact ⟨rfl, rfl⟩
    · repeat (first | exact True.intro | refine ⟨by first | exact rfl | exact True.intro, ?_⟩)
    apply NDr.pure
    · exact ⟨rfl, rfl⟩
    refine NP.mk (by kernel_rfl) ?_
    refine NRet.mk [] rfl (NFrz.mk ((n.way.take i ++ n.way.drop (i + 1)).map packetA) (by simp; omega) ?_ ⟨.refl _, rfl⟩)
    rw [List.drop_zero, List.take_left' (by simp; omega), List.map_append, List.map_take, List.map_drop]
  · rw [dif_neg h]
    by_cases h0 : i < 0
    · refine ND.yes (by omega) ?_
      exact NRet.mk [] rfl ⟨by repeat (first | exact LeA.refl _ | exact LeA.nils _ | refine LeA.agg ?_ | refine LeA.tup ?_ | exact LeAs.nil | refine LeAs.cons ?_ ?_), rfl⟩
    · refine ND.no (by omega) ?_
      refine ND.yes (by (simp only [List.length_map, List.length_append, List.length_replicate, List.length_cons, List.length_nil, List.length_take, List.length_drop]; omega)) ?_
      exact NRet.mk [] rfl ⟨by repeat (first | exact LeA.refl _ | exact LeA.nils _ | refine LeA.agg ?_ | refine LeA.tup ?_ | exact LeAs.nil | refine LeAs.cons ?_ ?_), rfl⟩
theorem twice_walk (n : Net) (i : Int) (hl : n.way.length ≤ 2 ^ 40) (hx : ∀ p ∈ n.way, p.bytes.length ≤ 2 ^ 40) : ACalls Try.prog Nm.net_Twice [netA n, i64 i] []
    (if h : 0 ≤ i ∧ i.toNat < n.way.length then if n.way.length < 64 then .tup [netA ⟨n.way ++ [n.way[i.toNat]]⟩, i64 0] else .tup [netA ⟨[]⟩, i64 6] else .tup [netA ⟨[]⟩, i64 10]) [] := by
  refine ACalls_of tab (dr_snd tab mixed) Nm.net_Twice_h rfl (by kernel_rfl) (Nat.le_of_ble_eq_true rfl) rfl ?_
  by_cases h : 0 ≤ i ∧ i.toNat < n.way.length
  · rw [dif_pos h]
    obtain ⟨i, rfl⟩ : ∃ k : Nat, i = k := ⟨i.toNat, by omega⟩
    have hil : i < n.way.length := by omega
    have hs := send_walk n n.way[i].src n.way[i].dst n.way[i].bytes hl hx (hx _ (List.getElem_mem hil))
    by_cases h6 : n.way.length < 64
    · rw [if_pos h6] at hs ⊢
      refine ND.no (by omega) ?_
      refine ND.no (by (simp only [List.length_map, List.length_append, List.length_replicate, List.length_cons, List.length_nil, List.length_take, List.length_drop]; omega)) ?_
      refine NP.mk (by omega) ?_
      refine NG.mapN (by omega) ?_
      refine NCall.call (hs) rfl rfl ?_
      exact NRet.mk [] rfl ⟨.refl _, rfl⟩
    · rw [if_neg h6] at hs ⊢
      refine ND.no (by omega) ?_
      refine ND.no (by (simp only [List.length_map, List.length_append, List.length_replicate, List.length_cons, List.length_nil, List.length_take, List.length_drop]; omega)) ?_
      refine NP.mk (by omega) ?_
      refine NG.mapN (by omega) ?_
      refine NCall.call (hs) rfl rfl ?_
      exact NRet.mk [] rfl ⟨.refl _, rfl⟩
  · rw [dif_neg h]
    by_cases h0 : i < 0
    · refine ND.yes (by omega) ?_
      exact NRet.mk [] rfl ⟨by repeat (first | exact LeA.refl _ | exact LeA.nils _ | refine LeA.agg ?_ | refine LeA.tup ?_ | exact LeAs.nil | refine LeAs.cons ?_ ?_), rfl⟩
    · refine ND.no (by omega) ?_
      refine ND.yes (by (simp only [List.length_map, List.length_append, List.length_replicate, List.length_cons, List.length_nil, List.length_take, List.length_drop]; omega)) ?_
      exact NRet.mk [] rfl ⟨by repeat (first | exact LeA.refl _ | exact LeA.nils _ | refine LeA.agg ?_ | refine LeA.tup ?_ | exact LeAs.nil | refine LeAs.cons ?_ ?_), rfl⟩

theorem samePacket_walk (a b : Packet) (ha : a.bytes.length ≤ 2 ^ 40) : ACalls Try.prog Nm.ref18_SamePacket [packetA a, packetA b] [] (.bool (decide (a = b))) [] := by
  refine ACalls_of tab (dr_snd tab mixed) Nm.ref18_SamePacket_h rfl (by kernel_rfl) (Nat.le_of_ble_eq_true rfl) rfl ?_
  have hs := sameB_walk a.bytes b.bytes (by omega)
  have hd : decide (a = b) = (decide (a.src = b.src) && (decide (a.dst = b.dst) && decide (a.bytes = b.bytes))) := by
    rw [Bool.eq_iff_iff]; simp [Packet.ext_iff]
  rw [hd]
  by_cases h1 : a.src = b.src
  · by_cases h2 : a.dst = b.dst
    · rw [decide_eq_true h1, decide_eq_true h2, Bool.true_and, Bool.true_and]
      refine ND.yes (by omega) ?_
      refine ND.yes (by omega) ?_
      refine NCall.call (hs) rfl rfl ?_
      exact NRet.mk [] rfl ⟨.refl _, rfl⟩
    · rw [decide_eq_false h2, Bool.false_and, Bool.and_false]
      refine ND.yes (by omega) ?_
      refine ND.no (by omega) ?_
      exact NRet.mk [] rfl ⟨.refl _, rfl⟩
  · rw [decide_eq_false h1, Bool.false_and]
    refine ND.no (by omega) ?_
    exact NRet.mk [] rfl ⟨.refl _, rfl⟩

theorem take_eq_step {α : Type} {a b : List α} {i : Nat} (ht : a.take i = b.take i) (hia : i < a.length) (hib : i < b.length) (h : a[i] = b[i]) : a.take (i + 1) = b.take (i + 1) := by
  rw [List.take_succ_eq_append_getElem hia, List.take_succ_eq_append_getElem hib, ht, h]

theorem same18_walk (a b : Net) (ha : a.way.length ≤ 2 ^ 40) (hx : ∀ p ∈ a.way, p.bytes.length ≤ 2 ^ 40) : ACalls Try.prog Nm.ref18_Same [netA a, netA b] [] (.bool (decide (a = b))) [] := by
  refine ACalls_of tab (dr_snd tab mixed) Nm.ref18_Same_h rfl (by kernel_rfl) (Nat.le_of_ble_eq_true rfl) rfl ?_
  have hd : decide (a = b) = decide (a.way = b.way) := by rw [Bool.eq_iff_iff]; simp [Net.ext_iff]
  rw [hd]
  by_cases hl : a.way.length = b.way.length
  · refine ND.yes (by (simp only [List.length_map, List.length_append, List.length_replicate, List.length_cons, List.length_nil, List.length_take, List.length_drop]; omega)) ?_
    refine NLoop.mk [] [2, 3, 5] (fun m vs H => ∃ i, i ≤ a.way.length ∧ m = a.way.length - i ∧ a.way.take i = b.way.take i ∧ H = [.row .box (.agg 1) [netA a], .row .box (.agg 1) [netA b]] ∧ vs = [.ptr 0 0 0, .ptr 1 0 0, i64 i]) rfl ?_ ?_
    · exact Canon.mk [0, 1] rfl ⟨a.way.length, 0, Nat.zero_le _, rfl, rfl, rfl, rfl⟩
    · rintro m vs H ⟨i, hi, rfl, ht, rfl, rfl⟩
      by_cases hil : i < a.way.length
      · have hib : i < b.way.length := by omega
        have hs := samePacket_walk a.way[i] b.way[i] (hx _ (List.getElem_mem hil))
        by_cases he : a.way[i] = b.way[i]
        · rw [decide_eq_true he] at hs
          refine ND.yes (by (simp only [List.length_map, List.length_append, List.length_replicate, List.length_cons, List.length_nil, List.length_take, List.length_drop]; omega)) ?_
          refine NP.mk (by kernel_rfl) ?_
          apply NDr.rd [0]
          · intro fH TH
            exact ⟨rfl, rfl⟩
          apply NDr.rd [0]
          · intro fH TH
            exact ⟨rfl, rfl⟩
          apply NDr.pure
          · exact ⟨rfl, rfl⟩
          apply NDr.pure
          · refine NP.mk (by omega) ?_
            refine NG.mapN (by omega) ?_
            exact ⟨rfl, rfl⟩
          apply NDr.pure
          · exact ⟨rfl, rfl⟩
          apply NDr.rd [1]
          · intro fH TH
            exact ⟨rfl, rfl⟩
          apply NDr.rd [1]
          · intro fH TH
            exact ⟨rfl, rfl⟩
          apply NDr.pure
          · exact ⟨rfl, rfl⟩
          apply NDr.pure
          · refine NP.mk (by omega) ?_
            refine NG.mapN (by omega) ?_
            exact ⟨rfl, rfl⟩
          apply NDr.pure
          · exact ⟨rfl, rfl⟩
          apply NDr.pure
          · refine NCall.call (hs) rfl rfl ?_
            exact ⟨rfl, rfl⟩
          apply NDr.pure
          · exact ⟨rfl, rfl⟩
          refine NP.mk (by kernel_rfl) ?_
          refine NW.i64 (by omega) (by omega) ?_
          exact Canon.mk [0, 1] rfl ⟨a.way.length - (i + 1), by omega, i + 1, by omega, rfl, take_eq_step ht hil hib he, rfl, rfl⟩
        · rw [decide_eq_false he] at hs
          rw [decide_eq_false fun e => he (by simp only [e])]
          refine ND.yes (by (simp only [List.length_map, List.length_append, List.length_replicate, List.length_cons, List.length_nil, List.length_take, List.length_drop]; omega)) ?_
          refine NP.mk (by kernel_rfl) ?_
          apply NDr.rd [0]
          · intro fH TH
            exact ⟨rfl, rfl⟩
          apply NDr.rd [0]
          · intro fH TH
            exact ⟨rfl, rfl⟩
          apply NDr.pure
          · exact ⟨rfl, rfl⟩
          apply NDr.pure
          · refine NP.mk (by omega) ?_
            refine NG.mapN (by omega) ?_
            exact ⟨rfl, rfl⟩
          apply NDr.pure
          · exact ⟨rfl, rfl⟩
          apply NDr.rd [1]
          · intro fH TH
            exact ⟨rfl, rfl⟩
          apply NDr.rd [1]
          · intro fH TH
            exact ⟨rfl, rfl⟩
          apply NDr.pure
          · exact ⟨rfl, rfl⟩
          apply NDr.pure
          · refine NP.mk (by omega) ?_
            refine NG.mapN (by omega) ?_
            exact ⟨rfl, rfl⟩
          apply NDr.pure
          · exact ⟨rfl, rfl⟩
          apply NDr.pure
          · refine NCall.call (hs) rfl rfl ?_
            exact ⟨rfl, rfl⟩
          apply NDr.pure
          · exact ⟨rfl, rfl⟩
          refine NP.mk (by kernel_rfl) ?_
          exact NRet.mk [] rfl ⟨.refl _, rfl⟩
      · have : i = a.way.length := by omega
        subst this
        rw [hl, List.take_length, ← hl, List.take_length] at ht
        rw [decide_eq_true ht]
        refine ND.no (by (simp only [List.length_map, List.length_append, List.length_replicate, List.length_cons, List.length_nil, List.length_take, List.length_drop]; omega)) ?_
        exact NRet.mk [] rfl ⟨.refl _, rfl⟩
  · rw [decide_eq_false fun e => hl (by rw [e])]
    refine ND.no (by (simp only [List.length_map, List.length_append, List.length_replicate, List.length_cons, List.length_nil, List.length_take, List.length_drop]; omega)) ?_
    exact NRet.mk [] rfl ⟨.refl _, rfl⟩

def shortN (n : Net) : Bool := decide (n.way.length ≤ 70) && n.way.all (fun p => decide (p.bytes.length ≤ 1000))
theorem short18_walk (n : Net) (hl : n.way.length ≤ 2 ^ 47) : ACalls Try.prog Nm.ref18_Short [netA n] [] (.bool (shortN n)) [] := by
  refine ACalls_of tab (dr_snd tab mixed) Nm.ref18_Short_h rfl (by kernel_rfl) (Nat.le_of_ble_eq_true rfl) rfl ?_
  unfold shortN
  by_cases h : n.way.length ≤ 70
  · rw [decide_eq_true h, Bool.true_and]
    refine ND.no (by (simp only [List.length_map, List.length_append, List.length_replicate, List.length_cons, List.length_nil, List.length_take, List.length_drop]; omega)) ?_
    refine NLoop.mk [] [1, 3] (fun m vs H => ∃ i, i ≤ n.way.length ∧ m = n.way.length - i ∧ ((n.way.take i).all fun p => decide (p.bytes.length ≤ 1000)) = true ∧ H = [.row .box (.agg 1) [netA n]] ∧ vs = [.ptr 0 0 0, i64 i]) rfl ?_ ?_
    · exact Canon.mk [0] rfl ⟨n.way.length, 0, Nat.zero_le _, rfl, rfl, rfl, rfl⟩
    · rintro m vs H ⟨i, hi, rfl, ht, rfl, rfl⟩
      by_cases hil : i < n.way.length
      · by_cases he : n.way[i].bytes.length ≤ 1000
        · refine ND.yes (by (simp only [List.length_map, List.length_append, List.length_replicate, List.length_cons, List.length_nil, List.length_take, List.length_drop]; omega)) ?_
          refine NP.mk (by omega) ?_
          refine NG.mapN (by omega) ?_
          refine ND.no (by (simp only [List.length_map, List.length_append, List.length_replicate, List.length_cons, List.length_nil, List.length_take, List.length_drop]; omega)) ?_
          refine NW.i64 (by omega) (by omega) ?_
          exact Canon.mk [0] rfl ⟨n.way.length - (i + 1), by omega, i + 1, by omega, rfl, by rw [List.take_succ_eq_append_getElem hil, List.all_append, ht]; simpa using he, rfl, rfl⟩
        · rw [show (n.way.all fun p => decide (p.bytes.length ≤ 1000)) = false by rw [List.all_eq_false]; exact ⟨n.way[i], List.getElem_mem hil, by simpa using he⟩]
          refine ND.yes (by (simp only [List.length_map, List.length_append, List.length_replicate, List.length_cons, List.length_nil, List.length_take, List.length_drop]; omega)) ?_
          refine NP.mk (by omega) ?_
          refine NG.mapN (by omega) ?_
          refine ND.yes (by (simp only [List.length_map, List.length_append, List.length_replicate, List.length_cons, List.length_nil, List.length_take, List.length_drop]; omega)) ?_
          exact NRet.mk [] rfl ⟨.refl _, rfl⟩
      · have : i = n.way.length := by omega
        subst this
        rw [List.take_length] at ht
        rw [ht]
        refine ND.no (by (simp only [List.length_map, List.length_append, List.length_replicate, List.length_cons, List.length_nil, List.length_take, List.length_drop]; omega)) ?_
        exact NRet.mk [] rfl ⟨.refl _, rfl⟩
  · rw [decide_eq_false h, Bool.false_and]
    refine ND.yes (by (simp only [List.length_map, List.length_append, List.length_replicate, List.length_cons, List.length_nil, List.length_take, List.length_drop]; omega)) ?_
    exact NRet.mk [] rfl ⟨.refl _, rfl⟩

theorem netAwake_walk : ACalls Try.prog Nm.law18_awake [] [] (.bool true) [] := by
  refine ACalls_of tab (dr_snd tab mixed) Nm.law18_awake_h rfl (by kernel_rfl) (Nat.le_of_ble_eq_true rfl) rfl ?_
  have h1 := send_walk ⟨[]⟩ 1 2 [120] (by decide) (by simp) (by decide)
  rw [if_pos (by decide)] at h1
  have h1 := h1.args (args := [.agg [.nils], i64 1, i64 2, bytes [120]]) (.cons (.agg (.cons (.nils _) .nil)) (LeAs.refl _))
  have h2 := take_walk ⟨[⟨1, 2, [120]⟩]⟩ 0 (by decide) (by simp)
  rw [dif_pos (by decide)] at h2
  refine NMk.own ?_
  refine NCall.roA [0] ?_
  refine NCall.call (h1) rfl rfl ?_
  refine NCall.call (h2) rfl rfl ?_
  refine ND.yes (by omega) ?_
  refine ND.yes (by omega) ?_
  refine ND.yes (by rfl) ?_
  refine NP.mk (by exact bytes_isByte) ?_
  refine ND.yes (by rfl) ?_
  refine ND.yes (by rfl) ?_
  refine ND.yes (by rfl) ?_
  exact NRet.mk [] rfl ⟨.refl _, rfl⟩
theorem refSend_walk (n : Net) (p : Packet) (hl : n.way.length ≤ 2 ^ 40) : ACalls Try.prog Nm.ref18_Send [netA n, packetA p] []
    (if n.way.length < 64 then .tup [netA ⟨n.way ++ [p]⟩, i64 0] else .tup [netA ⟨[]⟩, i64 6]) [] := by
  refine ACalls_of tab (dr_snd tab mixed) Nm.ref18_Send_h rfl (by kernel_rfl) (Nat.le_of_ble_eq_true rfl) rfl ?_
  by_cases h : n.way.length < 64
  · rw [if_pos h]
    refine ND.no (by (simp only [List.length_map, List.length_append, List.length_replicate, List.length_cons, List.length_nil, List.length_take, List.length_drop]; omega)) ?_
    refine NLoop.bm (.cons (sh := .agg 3) 3 0 rfl rfl (by decide) (.nil _)) [] [2, 3, 4, 5, 6, 7] (fun m vs H => ∃ i, i ≤ n.way.length + 1 ∧ m = n.way.length + 1 - i ∧
      H = [.row .box (.agg 1) [netA n], .row .box (.agg 3) [packetA p], .row .box (.agg 1) [.agg [.nils]], .row .box (.agg 1) [.agg [.own 4 0 (((n.way ++ [p]).take i).map packetA).length]], .row .vrow (.agg 3) (((n.way ++ [p]).take i).map packetA)] ∧
      vs = [.ptr 0 0 0, .ptr 1 0 0, .ptr 2 0 0, i64 0, .ptr 3 0 0, i64 i]) rfl ?_ ?_
    · exact Canon.mk [0, 1, 2, 3, 4] rfl ⟨n.way.length + 1, 0, Nat.zero_le _, rfl, rfl, rfl⟩
    · rintro m vs H ⟨i, hi, rfl, rfl, rfl⟩
      by_cases hil : i < n.way.length
      · have hs := snocMap packetA (n.way ++ [p]) (show i < (n.way ++ [p]).length by simp; omega)
        rw [List.getElem_append_left hil] at hs
        refine ND.yes (by (simp only [List.length_map, List.length_append, List.length_replicate, List.length_cons, List.length_nil, List.length_take, List.length_drop]; omega)) ?_
        refine ND.no (by (simp only [List.length_map, List.length_append, List.length_replicate, List.length_cons, List.length_nil, List.length_take, List.length_drop]; omega)) ?_
        refine NP.mk (by kernel_rfl) ?_
        apply NDr.rd [3]
        · intro fH TH
          exact ⟨rfl, rfl⟩
        apply NDr.rd [3]
        · intro fH TH
          exact ⟨rfl, rfl⟩
        apply NDr.rd [0]
        · intro fH TH
          exact ⟨rfl, rfl⟩
        apply NDr.rd [0]
        · intro fH TH
          exact ⟨rfl, rfl⟩
        apply NDr.pure
        · exact ⟨rfl, rfl⟩
        apply NDr.pure
        · refine NP.mk (by omega) ?_
          refine NG.mapN (by omega) ?_
          exact ⟨rfl, rfl⟩
        apply NDr.pure
        · exact ⟨rfl, rfl⟩
        apply NDr.pure
        · exact ⟨rfl, rfl⟩
        apply NDr.efw [4]
        · refine NFz.own ?_
          refine NApp.endA rfl (by simp; omega) ?_
          exact ⟨rfl, rfl⟩
        · repeat (first | exact True.intro | refine ⟨by first | exact rfl | exact True.intro, ?_⟩)
        apply NDr.rd [3]
        · intro fH TH
          exact ⟨rfl, rfl⟩
        apply NDr.efw [3, 5]
        · exact ⟨rfl, rfl⟩
        · repeat (first | exact True.intro | refine ⟨by first | exact rfl | exact True.intro, ?_⟩)
        refine NP.mk (by kernel_rfl) ?_
        refine NW.i64 (by omega) (by omega) ?_
        refine Canon.mk [0, 1, 2, 3, 5] rfl ⟨n.way.length + 1 - (i + 1), by omega, i + 1, by omega, rfl, ?_, rfl⟩
        rw [hs]; rfl
      · by_cases hie : i = n.way.length
        · have hs := snocMap packetA (n.way ++ [p]) (show i < (n.way ++ [p]).length by simp; omega)
          rw [List.getElem_append_right (by omega)] at hs
          refine ND.yes (by (simp only [List.length_map, List.length_append, List.length_replicate, List.length_cons, List.length_nil, List.length_take, List.length_drop]; omega)) ?_
          refine ND.yes (by (simp only [List.length_map, List.length_append, List.length_replicate, List.length_cons, List.length_nil, List.length_take, List.length_drop]; omega)) ?_
          refine NFz.own ?_
          refine NApp.endA rfl (by simp; omega) ?_
          refine NW.i64 (by omega) (by omega) ?_
          refine Canon.mk [0, 1, 2, 3, 5] rfl ⟨n.way.length + 1 - (i + 1), by omega, i + 1, by omega, rfl, ?_, rfl⟩
          rw [hs]; simp only [hie, Nat.sub_self]; rfl
        · have hin : (n.way ++ [p]).take i = n.way ++ [p] := List.take_of_length_le (by simp; omega)
          rw [hin]
          refine ND.no (by (simp only [List.length_map, List.length_append, List.length_replicate, List.length_cons, List.length_nil, List.length_take, List.length_drop]; omega)) ?_
          exact NRet.mk [] rfl (NFrz.mk ((n.way ++ [p]).map packetA) (by simp) (by rw [List.drop_zero, List.take_length]) ⟨.refl _, rfl⟩)
  · rw [if_neg h]
    refine ND.yes (by (simp only [List.length_map, List.length_append, List.length_replicate, List.length_cons, List.length_nil, List.length_take, List.length_drop]; omega)) ?_
    exact NRet.mk [] rfl ⟨by repeat (first | exact LeA.refl _ | exact LeA.nils _ | refine LeA.agg ?_ | refine LeA.tup ?_ | exact LeAs.nil | refine LeAs.cons ?_ ?_), rfl⟩

theorem copyB_list (l : List UInt8) (hl : l.length ≤ 2 ^ 46) : ACalls Try.prog Nm.ref02_Copy [bytes l] [] (bytes l) [] :=
  (copyB_walk l hl).drop (.val (drop_bytes rfl) rfl (fun _ => by simp) (fun _ => by simp [bytes]))

def wo {α : Type} (l : List α) (i : Int) : List α := if 0 ≤ i ∧ i.toNat < l.length then l.take i.toNat ++ l.drop (i.toNat + 1) else l
theorem wo_snoc {α : Type} (l : List α) (i : Int) (k : Nat) (h : k < l.length) : wo (l.take (k + 1)) i = if (k : Int) = i then wo (l.take k) i else wo (l.take k) i ++ [l[k]] := by
  unfold wo
  rw [List.length_take, List.length_take, Nat.min_eq_left (by omega), Nat.min_eq_left (by omega)]
  by_cases hk : (k : Int) = i
  · rw [if_pos hk, if_pos (by omega), if_neg (by omega)]
    have : i.toNat = k := by omega
    rw [this, List.take_take, Nat.min_eq_left (by omega), List.drop_eq_nil_of_le (by simp; omega), List.append_nil]
  · rw [if_neg hk]
    by_cases h2 : 0 ≤ i ∧ i.toNat < k
    · rw [if_pos (by omega), if_pos (by omega), List.take_take, List.take_take, Nat.min_eq_left (by omega), Nat.min_eq_left (by omega), List.take_succ_eq_append_getElem h, List.drop_append_of_le_length (by simp; omega), List.append_assoc]
    · rw [if_neg (by omega), if_neg (by omega), List.take_succ_eq_append_getElem h]

theorem wo_nil {α : Type} (i : Int) : wo ([] : List α) i = [] := by unfold wo; split <;> simp
theorem wo_le {α : Type} (l : List α) (i : Int) : (wo l i).length ≤ l.length := by unfold wo; split <;> simp <;> omega

theorem refWithout_walk (n : Net) (i : Int) (hl : n.way.length ≤ 2 ^ 40) : ACalls Try.prog Nm.ref18_Without [netA n, i64 i] []
    (netA ⟨wo n.way i⟩) [] := by
  refine ACalls_of tab (dr_snd tab mixed) Nm.ref18_Without_h rfl (by kernel_rfl) (Nat.le_of_ble_eq_true rfl) rfl ?_
  skip
  refine NLoop.bm (.cons (sh := .agg 3) 2 0 rfl rfl (by decide) (.nil _)) [] [2, 1, 4, 5, 6] (fun m vs H => ∃ k, k ≤ n.way.length ∧ m = n.way.length - k ∧
      H = [.row .box (.agg 1) [netA n], .row .box (.agg 1) [.agg [.nils]], .row .box (.agg 1) [.agg [.own 3 0 ((wo (n.way.take k) i).map packetA).length]], .row .vrow (.agg 3) ((wo (n.way.take k) i).map packetA)] ∧
      vs = [.ptr 0 0 0, i64 i, .ptr 1 0 0, .ptr 2 0 0, i64 k]) rfl ?_ ?_
  · exact Canon.mk [0, 1, 2, 3] rfl ⟨n.way.length, 0, Nat.zero_le _, rfl, by rw [List.take_zero, wo_nil]; rfl, rfl⟩
  · rintro m vs H ⟨k, hk, rfl, rfl, rfl⟩
    have hw := wo_le (n.way.take k) i
    rw [List.length_take] at hw
    by_cases hil : k < n.way.length
    · have hs := wo_snoc n.way i k hil
      by_cases hki : (k : Int) = i
      · rw [if_pos hki] at hs
        refine ND.yes (by (simp only [List.length_map, List.length_append, List.length_replicate, List.length_cons, List.length_nil, List.length_take, List.length_drop]; omega)) ?_
        refine ND.yes (by omega) ?_
        refine NW.i64 (by omega) (by omega) ?_
        exact Canon.mk [0, 1, 2, 3] rfl ⟨n.way.length - (k + 1), by omega, k + 1, by omega, rfl, by rw [hs]; rfl, rfl⟩
      · rw [if_neg hki] at hs
        refine ND.yes (by (simp only [List.length_map, List.length_append, List.length_replicate, List.length_cons, List.length_nil, List.length_take, List.length_drop]; omega)) ?_
        refine ND.no (by omega) ?_
        refine NP.mk (by kernel_rfl) ?_
        apply NDr.rd [2]
        · intro fH TH
          exact ⟨rfl, rfl⟩
        apply NDr.rd [2]
        · intro fH TH
          exact ⟨rfl, rfl⟩
        apply NDr.rd [0]
        · intro fH TH
          exact ⟨rfl, rfl⟩
        apply NDr.rd [0]
        · intro fH TH
          exact ⟨rfl, rfl⟩
        apply NDr.pure
        · exact ⟨rfl, rfl⟩
        apply NDr.pure
        · refine NP.mk (by omega) ?_
          refine NG.mapN (by omega) ?_
          exact ⟨rfl, rfl⟩
        apply NDr.pure
        · exact ⟨rfl, rfl⟩
        apply NDr.pure
        · exact ⟨rfl, rfl⟩
        apply NDr.efw [3]
        · refine NFz.own ?_
          refine NApp.endA rfl (by simp; omega) ?_
          exact ⟨rfl, rfl⟩
        · repeat (first | exact True.intro | refine ⟨by first | exact rfl | exact True.intro, ?_⟩)
        apply NDr.rd [2]
        · intro fH TH
          exact ⟨rfl, rfl⟩
        apply NDr.efw [2, 4]
        · exact ⟨rfl, rfl⟩
        · repeat (first | exact True.intro | refine ⟨by first | exact rfl | exact True.intro, ?_⟩)
        refine NP.mk (by kernel_rfl) ?_
        refine NW.i64 (by omega) (by omega) ?_
        refine Canon.mk [0, 1, 2, 4] rfl ⟨n.way.length - (k + 1), by omega, k + 1, by omega, rfl, ?_, rfl⟩
        rw [hs, List.map_append]; rfl
    · have hin : n.way.take k = n.way := List.take_of_length_le (by omega)
      rw [hin]
      have hw := wo_le n.way i
      refine ND.no (by (simp only [List.length_map, List.length_append, List.length_replicate, List.length_cons, List.length_nil, List.length_take, List.length_drop]; omega)) ?_
      exact NRet.mk [] rfl (NFrz.mk ((wo n.way i).map packetA) (by simp) (by rw [List.drop_zero, List.take_length]) ⟨.refl _, rfl⟩)

theorem copy18_walk (n : Net) (hl : n.way.length ≤ 2 ^ 40) (hx : ∀ p ∈ n.way, p.bytes.length ≤ 2 ^ 40) : ACalls Try.prog Nm.ref18_Copy [netA n] [] (netA n) [] := by
  refine ACalls_of tab (dr_snd tab mixed) Nm.ref18_Copy_h rfl (by kernel_rfl) (Nat.le_of_ble_eq_true rfl) rfl ?_
  skip
  refine NLoop.bm (.cons (sh := .agg 3) 2 0 rfl rfl (by decide) (.nil _)) [] [1, 2, 3, 4] (fun m vs H => ∃ i, i ≤ n.way.length ∧ m = n.way.length - i ∧
      H = [.row .box (.agg 1) [netA n], .row .box (.agg 1) [.agg [.nils]], .row .box (.agg 1) [.agg [.own 3 0 ((n.way.take i).map packetA).length]], .row .vrow (.agg 3) ((n.way.take i).map packetA)] ∧
      vs = [.ptr 0 0 0, .ptr 1 0 0, .ptr 2 0 0, i64 i]) rfl ?_ ?_
  · exact Canon.mk [0, 1, 2, 3] rfl ⟨n.way.length, 0, Nat.zero_le _, rfl, rfl, rfl⟩
  · rintro m vs H ⟨i, hi, rfl, rfl, rfl⟩
    by_cases hil : i < n.way.length
    · have hs := snocMap packetA n.way hil
      have hc := copyB_list n.way[i].bytes (by have := hx _ (List.getElem_mem hil); omega)
      refine ND.yes (by (simp only [List.length_map, List.length_append, List.length_replicate, List.length_cons, List.length_nil, List.length_take, List.length_drop]; omega)) ?_
      refine NP.mk (by kernel_rfl) ?_
      apply NDr.rd [2]
      · intro fH TH
        exact ⟨rfl, rfl⟩
      apply NDr.rd [2]
      · intro fH TH
        exact ⟨rfl, rfl⟩
      apply NDr.rd [0]
      · intro fH TH
        exact ⟨rfl, rfl⟩
      apply NDr.rd [0]
      · intro fH TH
        exact ⟨rfl, rfl⟩
      apply NDr.pure
      · exact ⟨rfl, rfl⟩
      apply NDr.pure
      · refine NP.mk (by omega) ?_
        refine NG.mapN (by omega) ?_
        exact ⟨rfl, rfl⟩
      apply NDr.pure
      · exact ⟨rfl, rfl⟩
      apply NDr.pure
      · exact ⟨rfl, rfl⟩
      apply NDr.rd [0]
      · intro fH TH
        exact ⟨rfl, rfl⟩
      apply NDr.rd [0]
      · intro fH TH
        exact ⟨rfl, rfl⟩
      apply NDr.pure
      · exact ⟨rfl, rfl⟩
      apply NDr.pure
      · refine NP.mk (by omega) ?_
        refine NG.mapN (by omega) ?_
        exact ⟨rfl, rfl⟩
      apply NDr.pure
      · exact ⟨rfl, rfl⟩
      apply NDr.pure
      · exact ⟨rfl, rfl⟩
      apply NDr.rd [0]
      · intro fH TH
        exact ⟨rfl, rfl⟩
      apply NDr.rd [0]
      · intro fH TH
        exact ⟨rfl, rfl⟩
      apply NDr.pure
      · exact ⟨rfl, rfl⟩
      apply NDr.pure
      · refine NP.mk (by omega) ?_
        refine NG.mapN (by omega) ?_
        exact ⟨rfl, rfl⟩
      apply NDr.pure
      · exact ⟨rfl, rfl⟩
      apply NDr.pure
      · exact ⟨rfl, rfl⟩
      apply NDr.pure
      · refine NCall.call (hc) rfl rfl ?_
        exact ⟨rfl, rfl⟩
      apply NDr.pure
      · exact ⟨rfl, rfl⟩
      apply NDr.pure
      · exact ⟨rfl, rfl⟩
      apply NDr.efw [3]
      · refine NFz.own ?_
        refine NApp.endA rfl (by simp; omega) ?_
        exact ⟨rfl, rfl⟩
      · repeat (first | exact True.intro | refine ⟨by first | exact rfl | exact True.intro, ?_⟩)
      apply NDr.rd [2]
      · intro fH TH
        exact ⟨rfl, rfl⟩
      apply NDr.efw [2, 4]
      · exact ⟨rfl, rfl⟩
      · repeat (first | exact True.intro | refine ⟨by first | exact rfl | exact True.intro, ?_⟩)
      refine NP.mk (by kernel_rfl) ?_
      refine NW.i64 (by omega) (by omega) ?_
      refine Canon.mk [0, 1, 2, 4] rfl ⟨n.way.length - (i + 1), by omega, i + 1, by omega, rfl, ?_, rfl⟩
      rw [hs]; rfl
    · have hin : n.way.take i = n.way := List.take_of_length_le (by omega)
      rw [hin]
      refine ND.no (by (simp only [List.length_map, List.length_append, List.length_replicate, List.length_cons, List.length_nil, List.length_take, List.length_drop]; omega)) ?_
      exact NRet.mk [] rfl (NFrz.mk (n.way.map packetA) (by simp) (by rw [List.drop_zero, List.take_length]) ⟨.refl _, rfl⟩)
end Go.Bv
