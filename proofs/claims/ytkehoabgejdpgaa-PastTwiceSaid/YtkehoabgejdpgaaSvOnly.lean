/- Part of the lift: an abstract walk of the program's code, proved sound, and what it shows of this program. -/
import Derived.Test.YtkehoabgejdpgaaSvOrd
namespace Go.Bv
set_option linter.unusedSimpArgs false
set_option linter.unusedVariables false
set_option maxHeartbeats 4000000
open Go Go.Proofs

theorem getJ {α : Type} {f : α → AV} {l : List α} {junk : List AV} {i : Nat} (h : i < l.length) : (l.map f ++ junk)[0 + i]? = some (f l[i]) := by
  rw [Nat.zero_add, List.getElem?_append_left (by simpa using h), List.getElem?_map, List.getElem?_eq_getElem h]; rfl
theorem delete_alg {α : Type} (es junk : List α) (i j : Nat) (z : α) (hi : i < j) (hj : j ≤ es.length) :
    es.take i ++ es.drop j ++ (List.replicate (j - i) z ++ junk) = ((es ++ junk).take i ++ (es.drop j ++ (es ++ junk).drop (i + (es.length - j)))).take (i + (es.length - j)) ++ (List.replicate (es.length - (i + (es.length - j))) z ++ ((es ++ junk).take i ++ (es.drop j ++ (es ++ junk).drop (i + (es.length - j)))).drop (i + (es.length - j) + (es.length - (i + (es.length - j))))) := by
  have h0 : (es ++ junk).take i = es.take i := List.take_append_of_le_length (by omega)
  have hl : (es.take i ++ es.drop j).length = i + (es.length - j) := by simp; omega
  rw [h0, ← List.append_assoc (es.take i), List.take_left' hl, show es.length - (i + (es.length - j)) = j - i by omega]
  congr 2
  rw [List.drop_append, List.drop_eq_nil_of_le (by omega), List.nil_append, hl, List.drop_drop, show i + (es.length - j) + (i + (es.length - j) + (j - i) - (i + (es.length - j))) = es.length by omega, List.drop_left]

theorem deleteT_walk (es junk : List AV) (i j : Nat) (hi : i < j) (hj : j ≤ es.length) (hb : es.length ≤ 2 ^ 40) : ACalls Try.prog Nm.slices_Delete_api_Txn_api_Txn [.own 0 0 es.length, i64 i, i64 j] [.row .vrow (.agg 4) (es ++ junk)]
    (.own 0 0 (i + (es.length - j))) [.row .vrow (.agg 4) (es.take i ++ es.drop j ++ (List.replicate (j - i) (.agg [i64 0, i64 0, .nils, .nils]) ++ junk))] := by
  refine ACalls_of tab (dr_snd tab mixed) Nm.slices_Delete_api_Txn_api_Txn_h rfl (by kernel_rfl) (Nat.le_of_ble_eq_true rfl) rfl ?_
  by_cases hje : j < es.length
  · refine NP.mk (by (simp only [List.length_map, List.length_append, List.length_replicate, List.length_cons, List.length_nil, List.length_take, List.length_drop]; omega)) ?_
    refine ND.no (by omega) ?_
    refine NP.mk (by kernel_rfl) ?_
    apply NDr.any
    · intro H'
      exact ⟨rfl, rfl⟩
    apply NDr.pure
    · exact ⟨rfl, rfl⟩
    apply NDr.rd [0]
    · intro fH TH
      refine NP.mk (by (simp only [List.length_map, List.length_append, List.length_replicate, List.length_cons, List.length_nil, List.length_take, List.length_drop]; omega)) ?_
      exact ⟨rfl, rfl⟩
    apply NDr.any
    · intro H'
      exact ⟨rfl, rfl⟩
    apply NDr.pure
    · exact ⟨rfl, rfl⟩
    apply NDr.rd [0]
    · intro fH TH
      refine NSl.mid (by omega) ?_
      exact ⟨rfl, rfl⟩
    apply NDr.efw [0]
    · refine NFz.own ?_
      refine NP.mk (by (simp only [List.length_map, List.length_append, List.length_replicate, List.length_cons, List.length_nil, List.length_take, List.length_drop]; omega)) ?_
      refine NApp.inA (by (simp only [List.length_map, List.length_append, List.length_replicate, List.length_cons, List.length_nil, List.length_take, List.length_drop]; omega)) ?_
      exact ⟨rfl, rfl⟩
    · repeat (first | exact True.intro | refine ⟨by first | exact rfl | exact True.intro, ?_⟩)
    apply NDr.any
    · intro H'
      exact ⟨rfl, rfl⟩
    refine NP.mk (by kernel_rfl) ?_
    refine NP.mk (by (simp only [List.length_map, List.length_append, List.length_replicate, List.length_cons, List.length_nil, List.length_take, List.length_drop]; omega)) ?_
    refine NSl.mid (by simp only [List.length_map, List.length_append, List.length_replicate, List.length_cons, List.length_nil, List.length_take, List.length_drop]; omega) ?_
    have hx : ((es ++ junk).drop j).take (es.length - j) = es.drop j := by
      rw [List.drop_append_of_le_length hj, List.take_left' (by simp)]
    have hxl : (es.drop j).length = es.length - j := List.length_drop
    refine NRet.mk [] rfl ⟨?_, ?_⟩
    · simp only [Int.toNat_natCast, Nat.zero_add, hx, hxl]; exact .refl _
    · simp only [Int.toNat_natCast, Nat.zero_add, hx, hxl]
      exact congrArg (fun l => [Blk.row .vrow (.agg 4) l]) (delete_alg es junk i j _ hi hj)
  · refine NP.mk (by (simp only [List.length_map, List.length_append, List.length_replicate, List.length_cons, List.length_nil, List.length_take, List.length_drop]; omega)) ?_
    refine ND.no (by omega) ?_
    refine NP.mk (by kernel_rfl) ?_
    apply NDr.any
    · intro H'
      exact ⟨rfl, rfl⟩
    apply NDr.pure
    · exact ⟨rfl, rfl⟩
    apply NDr.rd [0]
    · intro fH TH
      refine NP.mk (by (simp only [List.length_map, List.length_append, List.length_replicate, List.length_cons, List.length_nil, List.length_take, List.length_drop]; omega)) ?_
      exact ⟨rfl, rfl⟩
    apply NDr.any
    · intro H'
      exact ⟨rfl, rfl⟩
    apply NDr.pure
    · exact ⟨rfl, rfl⟩
    apply NDr.rd [0]
    · intro fH TH
      refine NSl.fin (by omega) ?_
      exact ⟨rfl, rfl⟩
    apply NDr.efw [0]
    · refine NFz.own ?_
      refine NApp.inA (by (simp only [List.length_map, List.length_append, List.length_replicate, List.length_cons, List.length_nil, List.length_take, List.length_drop]; omega)) ?_
      exact ⟨rfl, rfl⟩
    · repeat (first | exact True.intro | refine ⟨by first | exact rfl | exact True.intro, ?_⟩)
    apply NDr.any
    · intro H'
      exact ⟨rfl, rfl⟩
    refine NP.mk (by kernel_rfl) ?_
    refine NP.mk (by (simp only [List.length_map, List.length_append, List.length_replicate, List.length_cons, List.length_nil, List.length_take, List.length_drop]; omega)) ?_
    refine NSl.mid (by simp only [List.length_map, List.length_append, List.length_replicate, List.length_cons, List.length_nil, List.length_take, List.length_drop]; omega) ?_
    have hj' : es.length - j = 0 := by omega
    refine NRet.mk [] rfl ⟨?_, ?_⟩
    · simp only [Int.toNat_natCast, Nat.zero_add, hj', Nat.add_zero]; exact .refl _
    · simp only [Int.toNat_natCast, Nat.zero_add, Nat.add_zero]
      have := delete_alg es junk i j (AV.agg [i64 0, i64 0, .nils, .nils]) hi hj
      rw [hj', Nat.add_zero, List.drop_eq_nil_of_le (show es.length ≤ j by omega), List.nil_append, List.append_nil] at this
      rw [List.drop_eq_nil_of_le (show es.length ≤ j by omega), List.append_nil]
      exact congrArg (fun l => [Blk.row .vrow (.agg 4) l]) this

theorem hasPrefixL_walk (s p : List UInt8) (hs : s.length ≤ 2 ^ 47) : ACalls Try.prog Nm.internal_stringslite_HasPrefix [.str s, .str p] [] (.bool (decide (s.take p.length = p))) [] := by
  refine ACalls_of tab (dr_snd tab mixed) Nm.internal_stringslite_HasPrefix_h rfl (by kernel_rfl) (Nat.le_of_ble_eq_true rfl) rfl ?_
  by_cases h1 : p.length ≤ s.length
  · by_cases h2 : s.take p.length = p
    · rw [decide_eq_true h2]
      refine ND.yes (by omega) ?_
      refine NP.mk (by omega) ?_
      refine ND.yes (by (simp; omega)) ?_
      exact NRet.mk [] rfl ⟨.refl _, rfl⟩
    · rw [decide_eq_false h2]
      refine ND.yes (by omega) ?_
      refine NP.mk (by omega) ?_
      refine ND.no (by (simp; omega)) ?_
      exact NRet.mk [] rfl ⟨.refl _, rfl⟩
  · rw [decide_eq_false (fun h => h1 (by rw [← h, List.length_take]; omega))]
    refine ND.no (by omega) ?_
    exact NRet.mk [] rfl ⟨.refl _, rfl⟩

theorem hasPrefix_walk (s p : List UInt8) (hs : s.length ≤ 2 ^ 47) : ACalls Try.prog Nm.strings_HasPrefix [.str s, .str p] [] (.bool (decide (s.take p.length = p))) [] := by
  refine ACalls_of tab (dr_snd tab mixed) Nm.strings_HasPrefix_h rfl (by kernel_rfl) (Nat.le_of_ble_eq_true rfl) rfl ?_
  refine NCall.call (hasPrefixL_walk s p hs) rfl rfl ?_
  exact NRet.mk [] rfl ⟨.refl _, rfl⟩

theorem cloneD_walk (es : List AV) (hl : es.length ≤ 2 ^ 40) : ACalls Try.prog Nm.slices_Clone_api_Dot_api_Dot [.list (.agg 3) es] [] (.own 0 0 es.length) [.row .vrow (.agg 3) es] := by
  refine ACalls_of tab (dr_snd tab mixed) Nm.slices_Clone_api_Dot_api_Dot_h rfl (by kernel_rfl) (Nat.le_of_ble_eq_true rfl) rfl ?_
  refine NN.mk (fun h => ?_) ?_
  · subst h
    exact NRet.ad [(2, .agg 3)] [0] rfl ⟨.refl _, rfl⟩
  · refine NFz.own ?_
    refine NApp.endA rfl (by simp; omega) ?_
    exact NRet.mk [1] rfl ⟨.refl _, rfl⟩
end Go.Bv
