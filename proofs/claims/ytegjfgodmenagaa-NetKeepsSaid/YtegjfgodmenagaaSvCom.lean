/- Part of the lift: an abstract walk of the program's code, proved sound, and what it shows of this program. -/
import Derived.Test.YtegjfgodmenagaaBvBinS
import Derived.Test.YtegjfgodmenagaaBvAuto
import Derived.Test.YtegjfgodmenagaaSvTab
import Derived.Test.YtegjfgodmenagaaSvNm
namespace Go.Bv
open Go Go.Proofs

theorem mixed : Try.prog.follows .mixedOrders = true := by kernel_rfl

/-- slices.Clone of bytes. -/
theorem cloneB_walk (l : List UInt8) (hl : l.length ≤ 2 ^ 46) : ACalls Try.prog Nm.slices_Clone_byte_byte [bytes l] [] (.own 0 0 l.length) [.row .vrow .leaf (l.map u8)] := by
  refine ACalls_of tab noDr_snd Nm.slices_Clone_byte_byte_h rfl (by kernel_rfl) (Nat.le_of_ble_eq_true rfl) rfl ?_
  refine NN.mk (fun h => ?_) ?_
  · have : l = [] := by simpa using h
    subst this
    exact NRet.ad [(2, .leaf)] [0] rfl ⟨.refl _, rfl⟩
  · refine NFz.own (NApp.endd rfl rfl (by simpa using hl) ?_)
    refine NRet.mk [1] rfl ⟨?_, rfl⟩
    show LeA (.own 0 0 (l.map u8).length) _
    rw [List.length_map]; exact .refl _

/-- A row of bytes, as a list. -/
theorem drop_bytes {l : List UInt8} {n : Nat} (hn : n = l.length) : Lent [.row .vrow .leaf (l.map u8)] (fun _ => True) (.own 0 0 n) (bytes l) := by
  subst hn
  exact .own trivial rfl (by simp) (by simp) (by rw [List.drop_zero, List.take_of_length_le (by simp)])

theorem lend_bytes {H : List Blk} {id : Nat} {l : List UInt8} {kk : RK} (hid : H[id]? = some (.row kk .leaf (l.map u8))) (hk : kk ≠ .box) {n : Nat} (hn : n ≤ l.length) : Lent H (fun _ => True) (.own id 0 n) (bytes (l.take n)) := by
  refine .own trivial hid hk (by simpa using hn) (by rw [List.drop_zero, List.map_take])

theorem flat_bytes {l : List UInt8} {kk : RK} (hk : kk ≠ .box) : FlatBlk (.row kk .leaf (l.map u8)) := ⟨hk, fun e he => by
  obtain ⟨x, _, rfl⟩ := List.mem_map.1 he
  rfl⟩

theorem flatB {l : List UInt8} {kk : RK} (hk : kk ≠ .box := by simp) : ∀ b ∈ [Blk.row kk .leaf (l.map u8)], FlatBlk b := fun b hb => by
  rw [List.mem_singleton] at hb; subst hb; exact flat_bytes hk

theorem cloneB_list (l : List UInt8) (hl : l.length ≤ 2 ^ 46) : ACalls Try.prog Nm.slices_Clone_byte_byte [bytes l] [] (bytes l) [] :=
  (cloneB_walk l hl).drop (.val (drop_bytes rfl) rfl (fun _ => by simp) (fun _ => by simp [bytes]))

/-- butteryref02.Same. -/
theorem sameB_walk (a b : List UInt8) (ha : a.length < 2 ^ 62) : ACalls Try.prog Nm.ref02_Same [bytes a, bytes b] [] (.bool (decide (a = b))) [] := by
  refine ACalls_of tab (dr_snd tab mixed) Nm.ref02_Same_h rfl (by kernel_rfl) (Nat.le_of_ble_eq_true rfl) rfl ?_
  refine NB.dec (fun h => ?_) (fun h => ?_)
  · have hab : a.length = b.length := by simp only [List.length_map] at h; omega
    refine NLoop.mk [] [0, 1, 5] (fun m vs H => ∃ i, i ≤ a.length ∧ m = a.length - i ∧ a.take i = b.take i ∧ H = [] ∧ vs = [bytes a, bytes b, i64 i]) rfl ?_ ?_
    · exact Canon.mk [] rfl ⟨a.length, 0, Nat.zero_le _, rfl, rfl, rfl, rfl⟩
    · rintro m vs H ⟨i, hi, rfl, ht, rfl, rfl⟩
      refine NB.dec (fun h => ?_) (fun h => ?_)
      · have hi' : i < a.length := by simpa using h
        refine NP.mk (by kernel_rfl) ?_
        refine NDr.pure _ ⟨rfl, rfl⟩ ?_
        refine NDr.pure _ ⟨rfl, rfl⟩ ?_
        refine NDr.pure _ (NP.mk (Int.natCast_nonneg _) (NG.map hi' ⟨rfl, rfl⟩)) ?_
        refine NDr.pure _ ⟨rfl, rfl⟩ ?_
        refine NDr.pure _ ⟨rfl, rfl⟩ ?_
        refine NDr.pure _ ⟨rfl, rfl⟩ ?_
        refine NDr.pure _ (NP.mk (Int.natCast_nonneg _) (NG.map (show i < b.length by omega) ⟨rfl, rfl⟩)) ?_
        refine NDr.pure _ ⟨rfl, rfl⟩ ?_
        refine NDr.pure _ NB.det' ?_
        refine NP.mk (by kernel_rfl) ?_
        refine NB.mk (fun h2 => ?_) (fun h2 => ?_)
        · have hne : a ≠ b := fun e => by subst e; simp at h2
          refine NRet.mk [] rfl ⟨?_, rfl⟩
          rw [decide_eq_false hne]; exact .refl _
        · have he : a[i] = b[i] := by
            have h2 : (!decide ((a[i].toNat : Int) = (b[i].toNat : Int))) = false := h2
            simp only [Bool.not_eq_false', decide_eq_true_eq] at h2
            apply UInt8.toNat_inj.1; omega
          refine NW.i64 (by omega) (by omega) (Canon.mk [] rfl ⟨a.length - (i + 1), by omega, i + 1, by omega, rfl, ?_, rfl, rfl⟩)
          rw [List.take_succ_eq_append_getElem hi', List.take_succ_eq_append_getElem (show i < b.length by omega), ht, he]
      · have : i = a.length := by simp only [List.length_map] at h; omega
        subst this
        rw [hab, List.take_length, ← hab, List.take_length] at ht
        refine NRet.mk [] rfl ⟨?_, rfl⟩
        rw [decide_eq_true ht]; exact .refl _
  · have hab : a ≠ b := fun e => h (by subst e; rfl)
    refine NRet.mk [] rfl ⟨?_, rfl⟩
    rw [decide_eq_false hab]; exact .refl _

/-- butteryref02.Copy. -/
theorem copyB_walk (l : List UInt8) (hl : l.length ≤ 2 ^ 46) : ACalls Try.prog Nm.ref02_Copy [bytes l] [] (.own 0 0 l.length) [.row .vrow .leaf (l.map u8)] := by
  refine ACalls_of tab noDr_snd Nm.ref02_Copy_h rfl (by kernel_rfl) (Nat.le_of_ble_eq_true rfl) rfl ?_
  refine NFz.own (NApp.endd rfl rfl (by simpa using hl) ?_)
  refine NRet.mk [1] rfl ⟨?_, rfl⟩
  show LeA (.own 0 0 (l.map u8).length) _
  rw [List.length_map]; exact .refl _

theorem sameB_self (l : List UInt8) (h : l.length < 2 ^ 62) : ACalls Try.prog Nm.ref02_Same [bytes l, bytes l] [] (.bool true) [] := by
  have := sameB_walk l l h
  rwa [decide_eq_true rfl] at this

theorem sameB_nil : ACalls Try.prog Nm.ref02_Same [.nils, bytes []] [] (.bool true) [] := (sameB_self [] (by decide)).args (.cons (.nils .leaf) (.cons (.refl _) .nil))

end Go.Bv
