/- Part of the lift: an abstract walk of the program's code, proved sound, and what it shows of this program. -/
import Derived.Test.YtegjfgodmenagaaSvCom
namespace Go.Bv
set_option linter.unusedSimpArgs false
set_option linter.unusedVariables false
set_option maxHeartbeats 4000000
open Go Go.Proofs

theorem growB_walk (n : Nat) (hn : n ≤ 2 ^ 45) : ACalls Try.prog Nm.slices_Grow_byte_byte [.nils, i64 n] [] (.own 0 0 0) [.row .vrow .leaf (List.replicate n (u8 0))] := by
  refine ACalls_of tab noDr_snd Nm.slices_Grow_byte_byte_h rfl (by kernel_rfl) (Nat.le_of_ble_eq_true rfl) rfl ?_
  refine ND.no (by omega) ?_
  refine NW.i64 (by omega) (by omega) ?_
  refine NW.i64 (by omega) (by omega) ?_
  refine NB.dec (fun hk2 => ?_) (fun hk2 => ?_)
  · refine NP.mk (by omega) ?_
    refine NFz.own ?_
    refine NP.mk (by omega) ?_
    refine NP.mk (by (simp only [List.length_map, List.length_append, List.length_replicate, List.length_cons, List.length_nil, List.length_take, List.length_drop]; omega)) ?_
    refine NP.mk (by omega) ?_
    have e : ((n : Int) - (0 - 0)).toNat = n := by omega
    rw [e]
    exact NRet.mk [0] rfl ⟨.refl _, rfl⟩
  · have : n = 0 := by omega
    subst this
    exact NRet.ad [(4, .leaf)] [0] rfl ⟨.refl _, rfl⟩

theorem flatten_take_le {α : Type} (ls : List (List α)) (i : Nat) : (ls.take i).flatten.length ≤ ls.flatten.length := by
  conv => rhs; rw [← List.take_append_drop i ls]
  rw [List.flatten_append, List.length_append]; omega
theorem flatten_take_succ {α : Type} (ls : List (List α)) {i : Nat} (h : i < ls.length) : (ls.take (i + 1)).flatten = (ls.take i).flatten ++ ls[i] := by
  rw [List.take_succ_eq_append_getElem h, List.flatten_append, List.flatten_singleton]
theorem flatten_succ_len {α : Type} (ls : List (List α)) {i : Nat} (h : i < ls.length) : (ls.take (i + 1)).flatten.length = (ls.take i).flatten.length + ls[i].length := by
  rw [flatten_take_succ ls h, List.length_append]

theorem inpl_row {p x : List AV} {z : AV} {n k : Nat} (hk : k = 0 + p.length) (h : p.length + x.length ≤ n) :
    (p ++ List.replicate (n - p.length) z).take k ++ (x ++ (p ++ List.replicate (n - p.length) z).drop (k + x.length)) = (p ++ x) ++ List.replicate (n - (p ++ x).length) z := by
  subst hk
  rw [Nat.zero_add, List.take_left' rfl, ← List.drop_drop, List.drop_left' rfl, List.drop_replicate, List.append_assoc, List.length_append, Nat.sub_sub]

theorem concatB_walk (ls : List (List UInt8)) (hl : ls.flatten.length ≤ 2 ^ 45) (hk : ls.length ≤ 2 ^ 45) : ACalls Try.prog Nm.slices_Concat_byte_byte [.list .leaf (ls.map bytes)] [] (bytes ls.flatten) [] := by
  refine ACalls_of tab noDr_snd Nm.slices_Concat_byte_byte_h rfl (by kernel_rfl) (Nat.le_of_ble_eq_true rfl) rfl ?_
  refine NLoop.mk [] [0, 3, 9, 10, 11] (fun m vs H => ∃ i, i ≤ ls.length ∧ m = ls.length - i ∧ H = [] ∧ vs = [.list .leaf (ls.map bytes), i64 (ls.take i).flatten.length, .list .leaf (ls.map bytes), i64 ls.length, i64 i]) rfl ?_ ?_
  · exact Canon.mk [] rfl ⟨ls.length, 0, Nat.zero_le _, rfl, rfl, by simp [i64]⟩
  · rintro m vs H ⟨i, hi, rfl, rfl, rfl⟩
    have hs := flatten_take_le ls i
    have hs' := flatten_take_le ls (i + 1)
    refine NB.dec (fun h => ?_) (fun h => ?_)
    · have hi' : i < ls.length := by omega
      have hsucc := flatten_succ_len ls hi'
      refine NP.mk (by omega) ?_
      refine NG.mapN (by omega) ?_
      refine NW.i64 (by (simp only [List.length_map, List.length_append, List.length_replicate, List.length_cons, List.length_nil, List.length_take, List.length_drop]; omega)) (by (simp only [List.length_map, List.length_append, List.length_replicate, List.length_cons, List.length_nil, List.length_take, List.length_drop]; omega)) ?_
      refine ND.no (by omega) ?_
      refine NW.i64 (by omega) (by omega) ?_
      refine Canon.mk [] rfl ⟨ls.length - (i + 1), by omega, i + 1, by omega, rfl, rfl, ?_⟩
      rw [hsucc, List.length_map]; rfl
    · have : i = ls.length := by omega
      subst this
      rw [List.take_length] at *
      generalize hn : ls.flatten.length = n at *
      refine NCall.atA (ACalls.frame (growB_walk n (by omega)) rfl _) ?_
      refine NLoop.mk [] [6, 25, 26, 27] (fun m vs H => ∃ i, i ≤ ls.length ∧ m = ls.length - i ∧ H = [.row .vrow .leaf ((ls.take i).flatten.map u8 ++ List.replicate (n - (ls.take i).flatten.length) (u8 0))] ∧ vs = [.own 0 0 (ls.take i).flatten.length, .list .leaf (ls.map bytes), i64 ls.length, i64 i]) rfl ?_ ?_
      · exact Canon.mk [0] rfl ⟨ls.length, 0, Nat.zero_le _, rfl, rfl, by simp [i64]⟩
      · rintro m vs H ⟨i, hi, rfl, rfl, rfl⟩
        have hs := flatten_take_le ls i
        have hs' := flatten_take_le ls (i + 1)
        refine NB.dec (fun h => ?_) (fun h => ?_)
        · have hi' : i < ls.length := by omega
          have hsucc := flatten_succ_len ls hi'
          refine NP.mk (by omega) ?_
          refine NG.mapN (by omega) ?_
          refine NFz.own ?_
          refine NApp.inA (by (simp only [List.length_map, List.length_append, List.length_replicate, List.length_cons, List.length_nil, List.length_take, List.length_drop]; omega)) ?_
          refine NW.i64 (by omega) (by omega) ?_
          refine Canon.mk [0] rfl ⟨ls.length - (i + 1), by omega, i + 1, by omega, rfl, ?_, ?_⟩
          · have := inpl_row (p := (ls.take i).flatten.map u8) (x := ls[i].map u8) (z := u8 0) (n := n) (k := 0 + (ls.take i).flatten.length) (by simp only [List.length_map]) (by simp only [List.length_map]; omega)
            simp only [List.length_map, List.length_append] at this ⊢
            rw [this, flatten_take_succ ls hi', List.map_append, List.length_append]
          · rw [hsucc, List.length_map]; rfl
        · have : i = ls.length := by omega
          subst this
          rw [List.take_length] at *
          skip
          exact NRet.mk [] rfl (NFrz.mk (ls.flatten.map u8) (by simp only [List.length_map, List.length_append]; omega) (by rw [List.drop_zero, hn, List.take_left' (by rw [List.length_map, hn])]) ⟨.refl _, rfl⟩)
end Go.Bv
