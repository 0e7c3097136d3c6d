/- Part of the lift: an abstract walk of the program's code, proved sound, and what it shows of this program. -/
import Derived.Test.YtjgmoglhbdgmpaaGreatPart4
namespace Go.Bv
open Go
section
variable {P : Program} {Γ : Tab P} {n0 : Nat} {rs : List ResultVar} {H' : List Blk} {fr : Fr} {H : List Blk}
theorem NRet.boolE {q b : Bool} (h : b = q) (hn : NRet Γ n0 rs (.bool b) H' fr H) : NRet Γ n0 rs (.bool q) H' fr H := h ▸ hn
theorem NRet.intE {x y : Int} (h : x = y) (hn : NRet Γ n0 rs (i64 x) H' fr H) : NRet Γ n0 rs (i64 y) H' fr H := h ▸ hn
end
theorem setAll_same : ∀ (S : List Nat) (R H : List Blk), (∀ (i j : Nat) (b : Blk), S[i]? = some j → R[i]? = some b → H[j]? = some b) → setAll H S R = H
 | [], R, H, _ => by cases R <;> rfl
 | s :: S, [], H, _ => rfl
 | s :: S, b :: R, H, h => by
  have h0 := h 0 s b rfl rfl
  obtain ⟨hl, he⟩ := List.getElem?_eq_some_iff.1 h0
  rw [setAll, show H.set s b = H by rw [← he]; exact List.set_getElem_self hl]
  exact setAll_same S R H fun i j b hi hb => h (i + 1) j b (by simpa using hi) (by simpa using hb)
/-- A call that leaves the blocks that it looks at. -/
theorem NCall.subSame {P : Program} {f : FuncId} {args args0 : List AV} {H H0 : List Blk} {r r' : AV} {next : AV → List Blk → Prop} (S : List Nat) (h : ACalls P f args0 H0 r H0) (hn : next r' H) (hS : nodupB S = true := by exact rfl)
  (hH : S.map (fun j => H[j]?) = H0.map (fun b => some (b.rn (rho S H.length))) := by exact rfl) (ha : args = args0.map (AV.rnA (rho S H.length)) := by exact rfl) (er : r.rnT (rho S H.length) = r' := by (try dsimp only [AV.rnT, AV.rnA, AV.rnR, AV.rn1]) <;> exact rfl) : NCall P f args H next := by
 have hl : S.length = H0.length := by have := congrArg List.length hH; simpa using this
 have e1 : (H0.drop S.length) = [] := List.drop_eq_nil_of_le (by omega)
 have e2 : H0.take S.length = H0 := List.take_of_length_le (by omega)
 refine NCall.sub S h hS hH ha er (H'' := H) ?_ hn
 rw [e1, e2, List.map_nil, List.append_nil]
 refine setAll_same S _ H fun i j b hi hb => ?_
 have := congrArg (fun l => l[i]?) hH
 simp only [List.getElem?_map, hi, Option.map_some] at this
 rw [List.getElem?_map] at hb
 cases hq : H0[i]? with
 | none => rw [hq] at hb; simp at hb
 | some c =>
  rw [hq] at hb this
  simp only [Option.map_some, Option.some.injEq] at hb this
  rw [this, hb]
end Go.Bv
