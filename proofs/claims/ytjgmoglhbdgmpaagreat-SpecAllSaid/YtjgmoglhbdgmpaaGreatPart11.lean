/- Part of the lift: an abstract walk of the program's code, proved sound, and what it shows of this program. -/
import Derived.Test.YtjgmoglhbdgmpaaGreatPart7
import Derived.Test.YtjgmoglhbdgmpaaGreatPart10
import Derived.Test.YtjgmoglhbdgmpaaGreatPart8
namespace Go.Bv
set_option linter.unusedSimpArgs false
set_option linter.unusedVariables false
set_option maxHeartbeats 4000000
set_option maxRecDepth 20000
open Go Go.Proofs
def dotE (g : List Dot) : List (AV × AV) := g.map fun d => (dotA d, AV.bool true)
def addD (g : List Dot) (d : Dot) : List Dot := if d ∈ g then g else g ++ [d]
theorem dotE_get (k : List Dot) (i : Nat) : (dotE k)[i]? = (k[i]?).map fun d => (dotA d, AV.bool true) := by unfold dotE; rw [List.getElem?_map]
theorem NFind.dots {k : List Dot} {d : Dot} {T : Nat → AV → Prop} {E : Prop} (h1 : d ∈ k → ∀ i, (dotE k)[i]? = some (dotA d, .bool true) → T i (.bool true)) (h2 : d ∉ k → E) : NFind [0, 0, 0] (dotE k) (dotA d) T E := by
 by_cases h : d ∈ k
 ·have hex : ∃ i : Nat, k[i]? = some d := List.getElem?_of_mem h
  obtain ⟨i, hx, hmin⟩ := least_ex hex
  have hi : (dotE k)[i]? = some (dotA d, .bool true) := by rw [dotE_get, hx]; rfl
  refine .hit i (dotA d) (.bool true) hi (by rw [keyEq_dot]; simp) (fun j hj k' v' hjj => ?_) (h1 h i hi)
  rw [dotE_get] at hjj
  cases hkj : k[j]? with
  | none => rw [hkj] at hjj; simp at hjj
  | some y =>
   rw [hkj] at hjj
   simp only [Option.map_some, Option.some.injEq, Prod.mk.injEq] at hjj
   rw [← hjj.1, keyEq_dot, decide_eq_false]
   exact fun e => hmin j hj (by rw [hkj, e])
 ·refine .miss (fun j k' v' hjj => ?_) (h2 h)
  rw [dotE_get] at hjj
  cases hkj : k[j]? with
  | none => rw [hkj] at hjj; simp at hjj
  | some y =>
   rw [hkj] at hjj
   simp only [Option.map_some, Option.some.injEq, Prod.mk.injEq] at hjj
   rw [← hjj.1, keyEq_dot, decide_eq_false]
   exact fun e => h (e ▸ List.mem_of_getElem? hkj)
theorem addD_mem (g : List Dot) (d x : Dot) : x ∈ addD g d ↔ x ∈ g ∨ x = d := by
 unfold addD
 split
 ·rename_i h; exact ⟨.inl, fun h' => h'.elim id fun e => e ▸ h⟩
 ·simp
theorem addAll_mem : ∀ (L g : List Dot) (x : Dot), x ∈ L.foldl addD g ↔ x ∈ g ∨ x ∈ L
 | [], _, _ => by simp
 | d :: L, g, x => by rw [List.foldl_cons, addAll_mem L, addD_mem, List.mem_cons, or_assoc]
theorem addD_old {g : List Dot} {d : Dot} (h : d ∈ g) : addD g d = g := if_pos h
theorem addD_new {g : List Dot} {d : Dot} (h : d ∉ g) : dotE g ++ [(dotA d, AV.bool true)] = dotE (addD g d) := by
 unfold addD dotE
 rw [if_neg h, List.map_append]; rfl
def goneT (l : List Txn) : List Dot := (dropsT l).foldl addD []
def goneE (g : List Dot) (l : List Eff) : List Dot := (dropsE l).foldl addD g
theorem goneT_snoc {l : List Txn} {i : Nat} (h : i < l.length) : goneT (l.take (i + 1)) = goneE (goneT (l.take i)) l[i].effs := by
 unfold goneT goneE dropsT
 rw [List.take_succ_eq_append_getElem h, List.flatMap_append, List.foldl_append]
 simp
theorem goneE_snoc {g : List Dot} {l : List Eff} {i : Nat} (h : i < l.length) : goneE g (l.take (i + 1)) = l[i].drops.foldl addD (goneE g (l.take i)) := by
 unfold goneE dropsE
 rw [List.take_succ_eq_append_getElem h, List.flatMap_append, List.foldl_append]
 simp
theorem foldl_snoc {α β : Type} (f : β → α → β) (b : β) {l : List α} {i : Nat} (h : i < l.length) : (l.take (i + 1)).foldl f b = f ((l.take i).foldl f b) l[i] := by
 rw [List.take_succ_eq_append_getElem h, List.foldl_append]; rfl
def madeG (g : List Dot) (l : List Txn) : List Item := l.flatMap fun t => (t.effs.filter fun e => decide (e.kind ≠ 0 ∧ (⟨t.node, t.seq, e.at'⟩ : Dot) ∉ g)).map (made t.node t.seq)
theorem madeG_is {g : List Dot} {l : List Txn} (h : ∀ d, d ∈ g ↔ d ∈ dropsT l) : madeG g l = madeL' l := by
 unfold madeG madeL'
 simp only [h]
theorem goneT_mem (l : List Txn) (d : Dot) : d ∈ goneT l ↔ d ∈ dropsT l := by
 unfold goneT
 rw [addAll_mem]; simp
theorem madeG_len (g : List Dot) : ∀ (l : List Txn), (∀ t ∈ l, t.effs.length ≤ 100) → (madeG g l).length ≤ 100 * l.length
 | [], _ => by simp [madeG]
 | t :: l, h => by
  have h1 := madeG_len g l fun t' h' => h t' (List.mem_cons_of_mem _ h')
  have h2 := h t (List.mem_cons_self ..)
  unfold madeG at *
  rw [List.flatMap_cons, List.length_append, List.length_map, List.length_cons]
  have := List.length_filter_le (fun e : Eff => decide (e.kind ≠ 0 ∧ (⟨t.node, t.seq, e.at'⟩ : Dot) ∉ g)) t.effs
  omega
theorem madeG_snoc (g : List Dot) {l : List Txn} {i : Nat} (h : i < l.length) : madeG g (l.take (i + 1)) = madeG g (l.take i) ++ (l[i].effs.filter fun e => decide (e.kind ≠ 0 ∧ (⟨l[i].node, l[i].seq, e.at'⟩ : Dot) ∉ g)).map (made l[i].node l[i].seq) := by
 unfold madeG
 rw [List.take_succ_eq_append_getElem h, List.flatMap_append]
 simp
theorem means_walk (l : List Txn) (hl : l.length ≤ 500) (hx : ∀ t ∈ l, smTxn t) (hn : ∀ t ∈ l, t.effs.length ≤ 100) : ACalls Tryz.prog Nm.spec_Means [txnsA l] [] (itemsA (means l)) [] := by
 refine ACalls_of tab (dr_snd tab mixed) Nm.spec_Means_h rfl (by kernel_rfl) (Nat.le_of_ble_eq_true rfl) rfl ?_
 skip
 refine NLoop.mk [] [0, 3, 17, 18, 19] (fun m vs H => ∃ i, i ≤ l.length ∧ m = l.length - i ∧ H = [.map (dotE (goneT (l.take i)))] ∧ vs = [txnsA l, .map 0, txnsA l, i64 l.length, i64 i]) rfl ?_ ?_
 ·exact Canon.mk [0] rfl ⟨l.length, 0, Nat.zero_le _, rfl, rfl, by simp [txnsA, i64]⟩
 rintro m vs H ⟨i, hi, rfl, rfl, rfl⟩
 by_cases hil : i < l.length
 ·have hg := goneT_snoc hil
  refine ND.yes (by omega) ?_
  refine NP.mk (by omega) ?_
  refine NG.mapN (by omega) ?_
  refine NLoop.mk [] [0, 3, 17, 18, 19, 24, 25, 26] (fun m vs H => ∃ j, j ≤ l[i].effs.length ∧ m = l[i].effs.length - j ∧ H = [.map (dotE (goneE (goneT (l.take i)) (l[i].effs.take j)))] ∧ vs = [txnsA l, .map 0, txnsA l, i64 l.length, i64 i, effsA l[i].effs, i64 l[i].effs.length, i64 j]) rfl ?_ ?_
  ·exact Canon.mk [0] rfl ⟨l[i].effs.length, 0, Nat.zero_le _, rfl, rfl, by simp [txnsA, effsA, i64]⟩
  rintro m vs H ⟨j, hj, rfl, rfl, rfl⟩
  have hes := hn _ (List.getElem_mem hil)
  have hsx := (hx _ (List.getElem_mem hil)).2.2.2
  generalize goneT (l.take i) = g0 at *
  generalize l[i].effs = es at *
  by_cases hjl : j < es.length
  ·have hg2 := goneE_snoc (g := g0) hjl
   have hdl := (hsx _ (List.getElem_mem hjl)).2.2.2
   refine ND.yes (by omega) ?_
   refine NP.mk (by omega) ?_
   refine NG.mapN (by omega) ?_
   refine NLoop.mk [] [0, 3, 17, 18, 19, 24, 25, 26, 31, 32, 33] (fun m vs H => ∃ k, k ≤ es[j].drops.length ∧ m = es[j].drops.length - k ∧ H = [.map (dotE ((es[j].drops.take k).foldl addD (goneE g0 (es.take j))))] ∧ vs = [txnsA l, .map 0, txnsA l, i64 l.length, i64 i, effsA es, i64 es.length, i64 j, dotsA es[j].drops, i64 es[j].drops.length, i64 k]) rfl ?_ ?_
   ·exact Canon.mk [0] rfl ⟨es[j].drops.length, 0, Nat.zero_le _, rfl, rfl, by simp [txnsA, effsA, dotsA, i64]⟩
   rintro m vs H ⟨k, hk, rfl, rfl, rfl⟩
   by_cases hkl : k < es[j].drops.length
   ·have hg3 := foldl_snoc addD (goneE g0 (es.take j)) hkl
    generalize (es[j].drops.take k).foldl addD (goneE g0 (es.take j)) = g1 at *
    refine ND.yes (by omega) ?_
    refine NP.mk (by omega) ?_
    refine NG.mapN (by omega) ?_
    refine NFind.dots (d := es[j].drops[k]) (fun hd q hq => ?_) (fun hd => ?_)
    ·have e1 : (dotE g1).set q (dotA es[j].drops[k], .bool true) = dotE g1 := set_same hq
     refine NW.w ?_
     exact Canon.mk [0] rfl ⟨es[j].drops.length - (k + 1), by omega, k + 1, by omega, rfl, by rw [hg3, addD_old hd]; exact congrArg (fun m => [Blk.map m]) e1, rfl⟩
    ·refine NW.w ?_
     exact Canon.mk [0] rfl ⟨es[j].drops.length - (k + 1), by omega, k + 1, by omega, rfl, by rw [hg3]; exact congrArg (fun m => [Blk.map m]) (addD_new hd), rfl⟩
   have : k = es[j].drops.length := by omega
   subst this
   rw [List.take_length, ← hg2]
   refine ND.no (by omega) ?_
   refine NW.w ?_
   exact Canon.mk [0] rfl ⟨es.length - (j + 1), by omega, j + 1, by omega, rfl, rfl, rfl⟩
  have : j = es.length := by omega
  subst this
  rw [List.take_length]
  refine ND.no (by omega) ?_
  refine NW.w ?_
  exact Canon.mk [0] rfl ⟨l.length - (i + 1), by omega, i + 1, by omega, rfl, by rw [hg], rfl⟩
 have : i = l.length := by omega
 subst this
 rw [List.take_length]
 refine ND.no (by omega) ?_
 refine NLoop.mk [(10, .agg 8)] [3, 10, 42, 43, 44] (fun m vs H => ∃ i, i ≤ l.length ∧ m = l.length - i ∧ H = [.map (dotE (goneT l)), .row .vrow (.agg 8) ((madeG (goneT l) (l.take i)).map itemA)] ∧ vs = [.map 0, .own 1 0 ((madeG (goneT l) (l.take i)).map itemA).length, txnsA l, i64 l.length, i64 i]) rfl ?_ ?_
 ·exact Canon.mk [0, 1] rfl ⟨l.length, 0, Nat.zero_le _, rfl, rfl, by simp [txnsA, i64, madeG]⟩
 rintro m vs H ⟨i, hi, rfl, rfl, rfl⟩
 by_cases hil : i < l.length
 ·have hs := madeG_snoc (goneT l) hil
  refine ND.yes (by omega) ?_
  refine NP.mk (by omega) ?_
  refine NG.mapN (by omega) ?_
  have hes := hn _ (List.getElem_mem hil)
  have hlen := madeG_len (goneT l) (l.take i) fun t ht => hn t (List.mem_of_mem_take ht)
  rw [List.length_take] at hlen
  generalize hG : goneT l = G at *
  generalize hB : madeG G (l.take i) = B at *
  refine NLoop.mk [] [3, 10, 42, 43, 44, 12, 49, 50, 51] (fun m vs H => ∃ j, j ≤ l[i].effs.length ∧ m = l[i].effs.length - j ∧ H = [.map (dotE G), .row .vrow (.agg 8) ((B ++ ((l[i].effs.take j).filter fun e => decide (e.kind ≠ 0 ∧ (⟨l[i].node, l[i].seq, e.at'⟩ : Dot) ∉ G)).map (made l[i].node l[i].seq)).map itemA), .row .box (.agg 4) [.agg (txnC l[i])]] ∧
   vs = [.map 0, .own 1 0 ((B ++ ((l[i].effs.take j).filter fun e => decide (e.kind ≠ 0 ∧ (⟨l[i].node, l[i].seq, e.at'⟩ : Dot) ∉ G)).map (made l[i].node l[i].seq)).map itemA).length, txnsA l, i64 l.length, i64 i, .ptr 2 0 0, effsA l[i].effs, i64 l[i].effs.length, i64 j]) rfl ?_ ?_
  ·exact Canon.mk [0, 1, 2] rfl ⟨l[i].effs.length, 0, Nat.zero_le _, rfl, by simp only [List.take_zero, List.filter_nil, List.map_nil, List.append_nil] <;> rfl, by simp only [List.take_zero, List.filter_nil, List.map_nil, List.append_nil, List.length_map] <;> rfl⟩
  rintro m vs H ⟨j, hj, rfl, rfl, rfl⟩
  by_cases hjl : j < l[i].effs.length
  ·have hf := filter_take (fun e : Eff => decide (e.kind ≠ 0 ∧ (⟨l[i].node, l[i].seq, e.at'⟩ : Dot) ∉ G)) l[i].effs hjl
   have hfl : ((l[i].effs.take j).filter fun e : Eff => decide (e.kind ≠ 0 ∧ (⟨l[i].node, l[i].seq, e.at'⟩ : Dot) ∉ G)).length ≤ j := Nat.le_trans (List.length_filter_le _ _) (by rw [List.length_take]; omega)
   generalize ((l[i].effs.take j).filter fun e : Eff => decide (e.kind ≠ 0 ∧ (⟨l[i].node, l[i].seq, e.at'⟩ : Dot) ∉ G)) = F at *
   have hbl : (B ++ F.map (made l[i].node l[i].seq)).length ≤ 2 ^ 38 := by rw [List.length_append, List.length_map]; omega
   generalize hC : B ++ F.map (made l[i].node l[i].seq) = C at *
   by_cases hk : l[i].effs[j].kind = 0
   ·rw [decide_eq_false (fun h => h.1 hk), if_neg (by simp)] at hf
    refine ND.yes (by omega) ?_
    refine NP.mk (by omega) ?_
    refine NG.mapN (by omega) ?_
    refine ND.yes (by omega) ?_
    refine NW.w ?_
    exact Canon.mk [0, 1, 2] rfl ⟨l[i].effs.length - (j + 1), by omega, j + 1, by omega, rfl, by rw [hf, hC] <;> rfl, by rw [hf, hC] <;> rfl⟩
   ·refine ND.yes (by omega) ?_
    refine NP.mk (by omega) ?_
    refine NG.mapN (by omega) ?_
    refine ND.no (by omega) ?_
    refine NFind.dots (d := ⟨l[i].node, l[i].seq, l[i].effs[j].at'⟩) (fun hd q hq => ?_) (fun hd => ?_)
    ·rw [decide_eq_false (fun h => h.2 hd), if_neg (by simp)] at hf
     refine NW.w ?_
     exact Canon.mk [0, 1, 2] rfl ⟨l[i].effs.length - (j + 1), by omega, j + 1, by omega, rfl, by rw [hf, hC] <;> rfl, by rw [hf, hC] <;> rfl⟩
    ·rw [decide_eq_true ⟨hk, hd⟩, if_pos rfl] at hf
     have hB2 : B ++ List.map (made l[i].node l[i].seq) (F ++ [l[i].effs[j]]) = C ++ [made l[i].node l[i].seq l[i].effs[j]] := by
      rw [List.map_append, ← List.append_assoc, hC]; rfl
     refine NFz.own ?_
     refine NApp.endA rfl (by simp; omega) ?_
     refine NW.w ?_
     exact Canon.mk [0, 5, 2] rfl ⟨l[i].effs.length - (j + 1), by omega, j + 1, by omega, rfl, by rw [hf, hB2, List.map_append]; rfl, by rw [hf, hB2, List.map_append]; rfl⟩
  have : j = l[i].effs.length := by omega
  subst this
  rw [List.take_length, ← hs]
  refine ND.no (by omega) ?_
  refine NW.w ?_
  exact Canon.mk [0, 1] rfl ⟨l.length - (i + 1), by omega, i + 1, by omega, rfl, rfl, rfl⟩
 have : i = l.length := by omega
 subst this
 rw [List.take_length]
 have hm : norm (madeG (goneT l) l) = means l := by rw [madeG_is (goneT_mem l)]; rfl
 have k1 := norm_list (madeG (goneT l) l) (by have := madeG_len (goneT l) l hn; omega)
 rw [hm] at k1
 refine ND.no (by omega) ?_
 refine NCall.eq (by simp only [List.length_map] <;> exact rfl) ?_
 refine NCall.roA [1] ?_
 rw [(tlm _ _)]
 refine NCall.call (k1) rfl rfl ?_
 exact NRet.mk [] rfl ⟨.refl _, rfl⟩
end Go.Bv
namespace Go.Bv
open Go Go.Proofs
theorem chain_app : ∀ {a b : List Txn} {v : List Int}, chain v a = true → chain (nexts v a) b = true → chain v (a ++ b) = true
 | [], _, _, _, h => h
 | t :: a, b, v, h, h' => by
  obtain ⟨h1, h2⟩ := (chain_cons v t a).1 h
  exact (chain_cons v t (a ++ b)).2 ⟨h1, chain_app h2 h'⟩
end Go.Bv
namespace Go.Bv
open Go Go.Proofs
def pickT (l : List Txn) (v : List Int) : List Txn := l.filter fun t => hasB v t.node t.seq
theorem all_take {α : Type} {P : α → Prop} {l : List α} {i : Nat} (h : i < l.length) (ht : ∀ x ∈ l.take i, P x) (hp : P l[i]) : ∀ x ∈ l.take (i + 1), P x := fun x hx => by
 rw [List.take_succ_eq_append_getElem h, List.mem_append, List.mem_singleton] at hx
 exact hx.elim (ht x) fun e => e ▸ hp
theorem chain_dots : ∀ {b : List Txn} {v : List Int}, chain v b = true → (∀ t ∈ b, okN t) → (b.map dotOf).Nodup
 | [], _, _, _ => List.nodup_nil
 | t :: b, v, hc, hn => by
  obtain ⟨hr, hc'⟩ := (chain_cons v t b).1 hc
  have hn' := fun t' ht' => hn t' (List.mem_cons_of_mem _ ht')
  have ht := hn t (List.mem_cons_self ..)
  rw [List.map_cons, List.nodup_cons]
  refine ⟨fun h => ?_, chain_dots hc' hn'⟩
  obtain ⟨t', ht', e⟩ := List.mem_map.1 h
  have h1 := (chain_nodup hc' hn').2 t' ht'
  unfold dotOf at e
  simp only [Prod.mk.injEq] at e
  rw [vat_next, e.1, if_pos ⟨ht, rfl⟩] at h1
  omega
theorem sub_len : ∀ {a b : List Txn}, a.Nodup → (∀ x ∈ a, x ∈ b) → a.length ≤ b.length
 | [], _, _, _ => Nat.zero_le _
 | x :: a, b, h, hs => by
  rw [List.nodup_cons] at h
  have hx := hs x (List.mem_cons_self ..)
  have ih := sub_len (b := b.erase x) h.2 fun y hy => (List.mem_erase_of_ne fun e : y = x => h.1 (by rw [← e]; exact hy)).2 (hs y (List.mem_cons_of_mem _ hy))
  rw [List.length_erase_of_mem hx] at ih
  have := List.length_pos_of_mem hx
  rw [List.length_cons]; omega
/-- Whatever way what can be taken is taken: all of it is, if the list is closed, and only then. -/
theorem closed_rest {l out r : List Txn} (hf : ∀ t ∈ l, formed t = true) (hc : chain [] out = true) (hp : l.Perm (out ++ r)) (hr : ∀ t ∈ r, ready (nexts [] out) t = false) : closedB l = decide (out.length = l.length) := by
 unfold closedB
 rw [List.all_eq_true.2 hf, Bool.true_and]
 congr 1
 rw [eq_iff_iff]
 have hol : ∀ t ∈ out, t ∈ l := fun t ht => hp.mem_iff.2 (List.mem_append_left _ ht)
 have hon : ∀ t ∈ out, okN t := fun t ht => formed_n (hf t (hol t ht))
 have hpl := hp.length_eq
 rw [List.length_append] at hpl
 obtain ⟨q, hq, _⟩ := takeT_rest [] l
 have hql := hq.length_eq
 rw [List.length_append] at hql
 constructor
 ·intro h
  have hqn : q = [] := List.length_eq_zero_iff.1 (by omega)
  rw [hqn, List.append_nil] at hq
  have han := chain_dots (takeT_chain [] l) (fun t ht => formed_n (hf t (takeT_mem ht)))
  have hdl : (l.map dotOf).Nodup := (hq.map dotOf).nodup_iff.2 han
  obtain ⟨k1, _⟩ := chain_sub (dots_inj hdl) hc rfl hol (fun t ht => (List.mem_append.1 (hp.mem_iff.1 ht)).imp id (hr t)) (fun i => Int.le_refl _) (fun i => nexts_mono hc i) (takeT_chain [] l) (fun t ht => takeT_mem ht)
  have := sub_len (nodup_of_dots han) k1
  omega
 ·intro h
  have hrn : r = [] := List.length_eq_zero_iff.1 (by omega)
  rw [hrn, List.append_nil] at hp
  have hon' := chain_dots hc hon
  have hdl : (l.map dotOf).Nodup := (hp.map dotOf).nodup_iff.2 hon'
  have ht := takeT_of_chain hc
  obtain ⟨q1, _⟩ := take_any (v := []) (l := l) (l' := out) (dots_inj hdl) (perm_mem hp) (take_nodup (nodup_of_dots hdl)) (by rw [ht]; exact nodup_of_dots hon')
  rw [ht] at q1
  rw [q1.length_eq, hp.length_eq]
end Go.Bv
namespace Go.Bv
set_option linter.unusedSimpArgs false
set_option linter.unusedVariables false
set_option maxHeartbeats 4000000
set_option maxRecDepth 20000
open Go Go.Proofs
theorem indexTn_walk (g : Nat) (l : List Txn) (p : Txn → Bool) (hl : l.length ≤ 2 ^ 40) (hg : ∀ t ∈ l, ACalls Tryz.prog g [txnA t] [] (.bool (p t)) []) :
  ACalls Tryz.prog Nm.slices_IndexFunc_api_Txn_api_Txn [txnsA l, .fn g []] [] (i64 (ixI p l)) [] := by
 refine ACalls_of tab (dr_snd tab mixed) Nm.slices_IndexFunc_api_Txn_api_Txn_h rfl (by kernel_rfl) (Nat.le_of_ble_eq_true rfl) rfl ?_
 refine NLoop.mk [] [0, 1, 6, 7, 8] (fun m vs H => ∃ i, i ≤ l.length ∧ m = l.length - i ∧ (∀ x ∈ l.take i, p x = false) ∧ H = [] ∧ vs = [txnsA l, .fn g [], txnsA l, i64 l.length, i64 i]) rfl ?_ ?_
 ·exact Canon.mk [] rfl ⟨l.length, 0, Nat.zero_le _, rfl, by simp, rfl, by simp [txnsA, i64]⟩
 ·rintro m vs H ⟨i, hi, rfl, ht, rfl, rfl⟩
  by_cases hil : i < l.length
  ·have hc := hg _ (List.getElem_mem hil)
   obtain ⟨f1, f2⟩ := find_step hil ht
   cases hp : p l[i] with
   | true =>
    rw [hp] at hc
    rw [f1 hp]
    refine ND.yes (by omega) ?_
    refine NP.mk (by omega) ?_
    refine NG.mapN (by omega) ?_
    refine NCall.call (hc) rfl rfl ?_
    exact NRet.mk [] rfl ⟨.refl _, rfl⟩
   | false =>
    rw [hp] at hc
    refine ND.yes (by omega) ?_
    refine NP.mk (by omega) ?_
    refine NG.mapN (by omega) ?_
    refine NCall.call (hc) rfl rfl ?_
    refine NW.w ?_
    exact Canon.mk [] rfl ⟨l.length - (i + 1), by omega, i + 1, by omega, rfl, f2 hp, rfl, rfl⟩
  ·have : i = l.length := by omega
   subst this
   rw [List.take_length] at ht
   rw [find_none ht]
   refine ND.no (by omega) ?_
   exact NRet.mk [] rfl ⟨.refl _, rfl⟩
theorem containsTn_walk (g : Nat) (l : List Txn) (p : Txn → Bool) (hl : l.length ≤ 2 ^ 40) (hg : ∀ t ∈ l, ACalls Tryz.prog g [txnA t] [] (.bool (p t)) []) :
  ACalls Tryz.prog Nm.slices_ContainsFunc_api_Txn_api_Txn [txnsA l, .fn g []] [] (.bool (l.any p)) [] := by
 have hi := indexTn_walk g l p hl hg
 refine ACalls_of tab (dr_snd tab mixed) Nm.slices_ContainsFunc_api_Txn_api_Txn_h rfl (by kernel_rfl) (Nat.le_of_ble_eq_true rfl) rfl ?_
 rw [ixI_any]
 by_cases h : 0 ≤ ixI p l
 ·rw [decide_eq_true h]
  refine NCall.call (hi) rfl rfl ?_
  refine ND.yes (by omega) ?_
  exact NRet.mk [] rfl ⟨.refl _, rfl⟩
 ·rw [decide_eq_false h]
  refine NCall.call (hi) rfl rfl ?_
  refine ND.no (by omega) ?_
  exact NRet.mk [] rfl ⟨.refl _, rfl⟩
end Go.Bv
namespace Go.Bv
set_option linter.unusedSimpArgs false
set_option linter.unusedVariables false
set_option maxHeartbeats 4000000
set_option maxRecDepth 20000
open Go Go.Proofs
def dotT (t : Txn) : Dot := ⟨t.node, t.seq, 0⟩
def thereD (l : List Txn) : List Dot := (l.map dotT).foldl addD []
theorem thereD_snoc {l : List Txn} {i : Nat} (h : i < l.length) : thereD (l.take (i + 1)) = addD (thereD (l.take i)) (dotT l[i]) := by
 unfold thereD
 rw [List.take_succ_eq_append_getElem h, List.map_append, List.foldl_append]; rfl
theorem thereD_mem (l : List Txn) (i s : Int) : (⟨i, s, 0⟩ : Dot) ∈ thereD l ↔ thereB l i s = true := by
 unfold thereD
 rw [addAll_mem, thereB_iff]
 simp only [List.not_mem_nil, false_or, List.mem_map]
 constructor
 ·rintro ⟨t, h1, h2⟩
  simp only [dotT, Dot.mk.injEq] at h2
  exact ⟨t, h1, h2.1, h2.2.1⟩
 ·rintro ⟨t, h1, h2, h3⟩
  exact ⟨t, h1, by unfold dotT; rw [h2, h3]⟩
theorem runT_le (l : List Txn) (i : Int) : runT l i ≤ l.length := many_len _ (runT_spec l i).1
def hw0 (l : List Txn) (i : Nat) : List Int := tab0 (fun i => (runT l (i : Int) : Int)) i ++ List.replicate (8 - i) 0
theorem hw0_len (l : List Txn) {i : Nat} (h : i ≤ 8) : (hw0 l i).length = 8 := by
 unfold hw0
 rw [List.length_append, tab0_len, List.length_replicate]; omega
theorem hw0_at (l : List Txn) {i : Nat} (h : i < 8) : (hw0 l i).set i 0 = hw0 l i := by
 unfold hw0
 rw [show 8 - i = (7 - i) + 1 by omega, List.replicate_succ, List.set_append_right _ _ (by rw [tab0_len]; omega), tab0_len, Nat.sub_self]; rfl
theorem hw0_snoc (l : List Txn) {i : Nat} (h : i < 8) : (hw0 l i).set i (runT l (i : Int) : Int) = hw0 l (i + 1) := by
 unfold hw0
 rw [show 8 - i = (7 - i) + 1 by omega, show 8 - (i + 1) = 7 - i by omega, List.replicate_succ, List.set_append_right _ _ (by rw [tab0_len]; omega), tab0_len, Nat.sub_self, tab0_succ, List.append_assoc]; rfl
theorem hw0_full (l : List Txn) : trim (hw0 l 8) = heardP l := by
 unfold hw0 heardP
 rw [Nat.sub_self, List.replicate_zero, List.append_nil]
theorem heard_walk (l : List Txn) (hl : l.length ≤ 5000) : ACalls Tryz.prog Nm.spec_Heard [txnsA l] [] (ints (heardP l)) [] := by
 refine ACalls_of tab (dr_snd tab mixed) Nm.spec_Heard_h rfl (by kernel_rfl) (Nat.le_of_ble_eq_true rfl) rfl ?_
 skip
 refine NLoop.mk [] [3, 9, 10, 11] (fun m vs H => ∃ i, i ≤ l.length ∧ m = l.length - i ∧ H = [.map (dotE (thereD (l.take i)))] ∧ vs = [.map 0, txnsA l, i64 l.length, i64 i]) rfl ?_ ?_
 ·exact Canon.mk [0] rfl ⟨l.length, 0, Nat.zero_le _, rfl, rfl, by simp [txnsA, i64]⟩
 rintro m vs H ⟨i, hi, rfl, rfl, rfl⟩
 by_cases hil : i < l.length
 ·have hg := thereD_snoc hil
  generalize thereD (l.take i) = g1 at *
  refine ND.yes (by omega) ?_
  refine NP.mk (by omega) ?_
  refine NG.mapN (by omega) ?_
  refine NCall.call (dot_walk l[i]) rfl rfl ?_
  refine NFind.dots (d := dotT l[i]) (fun hd q hq => ?_) (fun hd => ?_)
  ·have e1 : (dotE g1).set q (dotA (dotT l[i]), .bool true) = dotE g1 := set_same hq
   refine NW.w ?_
   exact Canon.mk [0] rfl ⟨l.length - (i + 1), by omega, i + 1, by omega, rfl, by rw [hg, addD_old hd]; exact congrArg (fun m => [Blk.map m]) e1, rfl⟩
  ·refine NW.w ?_
   exact Canon.mk [0] rfl ⟨l.length - (i + 1), by omega, i + 1, by omega, rfl, by rw [hg]; exact congrArg (fun m => [Blk.map m]) (addD_new hd), rfl⟩
 have : i = l.length := by omega
 subst this
 rw [List.take_length]
 refine ND.no (by omega) ?_
 refine NP.mk (by omega) ?_
 refine NMk.own ?_
 refine NLoop.mk [] [3, 6, 21, 22] (fun m vs H => ∃ i, i ≤ 8 ∧ m = 8 - i ∧ H = [.map (dotE (thereD l)), .row .row .leaf ((hw0 l i).map i64)] ∧ vs = [.map 0, .own 1 0 8, i64 8, i64 i]) rfl ?_ ?_
 ·exact Canon.mk [0, 1] rfl ⟨8, 0, Nat.zero_le _, rfl, rfl, rfl⟩
 rintro m vs H ⟨i, hi, rfl, rfl, rfl⟩
 have hwl := hw0_len l hi
 by_cases hil : i < 8
 ·have hsn := hw0_snoc l hil
  have hat := hw0_at l hil
  obtain ⟨hr1, hr2⟩ := runT_spec l (i : Int)
  have hrl := runT_le l (i : Int)
  generalize hw0 l i = w at *
  refine ND.yes (by omega) ?_
  refine NLoop.mk [] [3, 6, 7, 21, 22] (fun m vs H => ∃ k, k ≤ runT l (i : Int) ∧ m = runT l (i : Int) - k ∧ H = [.map (dotE (thereD l)), .row .row .leaf ((w.set i (k : Int)).map i64)] ∧ vs = [.map 0, .own 1 0 8, i64 i, i64 8, i64 i]) rfl ?_ ?_
  ·exact Canon.mk [0, 1] rfl ⟨runT l (i : Int), 0, Nat.zero_le _, rfl, by rw [show ((0 : Nat) : Int) = 0 from rfl, hat], rfl⟩
  rintro m vs H ⟨k, hk, rfl, rfl, rfl⟩
  obtain ⟨u, hu⟩ : ∃ u, u = w.set i (k : Int) := ⟨_, rfl⟩
  have hul : u.length = 8 := by rw [hu, List.length_set, hwl]
  have hui : ∀ h, u[i]'h = (k : Int) := fun h => by subst hu; rw [List.getElem_set_self]
  rw [← hu]
  have hil2 : i < u.length := by omega
  have huk := hui hil2
  by_cases hkl : k < runT l (i : Int)
  ·have hm := (thereD_mem l (i : Int) ((k : Int) + 1)).2 (by have := hr1 (k + 1) (by omega) (by omega); rwa [show ((k + 1 : Nat) : Int) = (k : Int) + 1 by omega] at this)
   rw [← huk] at hm
   refine NP.mk (by (simp only [zLm, zLa, zLr, zLc, zLn, zLt, zLd]; omega)) ?_
   refine NG.map0N (by omega) ?_
   refine NW.w ?_
   refine NFind.dots (d := ⟨i, u[i] + 1, 0⟩) (fun hd q hq => ?_) (fun hd => absurd hm hd)
   refine NP.mk (by (simp only [zLm, zLa, zLr, zLc, zLn, zLt, zLd]; omega)) ?_
   refine NG.map0N (by omega) ?_
   refine NW.w ?_
   refine NP.mk (by (simp only [zLm, zLa, zLr, zLc, zLn, zLt, zLd]; omega)) ?_
   refine NG.map0N (by omega) ?_
   exact Canon.mk [0, 1] rfl ⟨runT l (i : Int) - (k + 1), by omega, k + 1, by omega, rfl, by
    have e1 : (u.map i64).set (0 + (i : Int).toNat) (i64 (u[i] + 1)) = (w.set i ((k + 1 : Nat) : Int)).map i64 := by
     rw [Nat.zero_add, Int.toNat_natCast, ← List.map_set, huk, hu, List.set_set]; rfl
    exact congrArg (fun r => [Blk.map (dotE (thereD l)), Blk.row .row .leaf r]) e1, rfl⟩
  ·have hke : k = runT l (i : Int) := by omega
   have hm : (⟨(i : Int), (k : Int) + 1, 0⟩ : Dot) ∉ thereD l := by rw [thereD_mem, hke, hr2]; simp
   rw [← huk] at hm
   refine NP.mk (by (simp only [zLm, zLa, zLr, zLc, zLn, zLt, zLd]; omega)) ?_
   refine NG.map0N (by omega) ?_
   refine NW.w ?_
   refine NFind.dots (d := ⟨i, u[i] + 1, 0⟩) (fun hd q hq => absurd hd hm) (fun hd => ?_)
   refine NW.w ?_
   exact Canon.mk [0, 1] rfl ⟨8 - (i + 1), by omega, i + 1, by omega, rfl, by rw [hu, hke, hsn], rfl⟩
 have : i = 8 := by omega
 subst this
 have h1 := vecTrim_walk (hw0 l 8) (by omega)
 rw [hw0_full] at h1
 refine ND.no (by omega) ?_
 refine NCall.frzAllN [1] (h1) (.cons (.own (by simp) rfl (by simp) (by simp; omega) (by rw [List.drop_zero, List.take_of_length_le (by simp; omega)])) .nil) rfl rfl rfl ?_
 exact NRet.mk [] rfl ⟨.refl _, rfl⟩
theorem notFormed26_walk (t : Txn) (ht : smTxn t) : ACalls Tryz.prog Nm.spec_Closed_1 [txnA t] [] (.bool (!formed t)) [] := by
 refine ACalls_of tab (dr_snd tab mixed) Nm.spec_Closed_1_h rfl (by kernel_rfl) (Nat.le_of_ble_eq_true rfl) rfl ?_
 refine NCall.call (formed_walk t ht) rfl rfl ?_
 refine NB.mk (fun hk1 => ?_) (fun hk1 => ?_)
 ·refine NRet.boolE (b := false) ?_ (NRet.mk [] rfl ⟨.refl _, rfl⟩)
  (simp [*]; done)
 refine NRet.boolE (b := true) ?_ (NRet.mk [] rfl ⟨.refl _, rfl⟩)
 (simp [*]; done)
theorem closed_walk (l : List Txn) (hl : l.length ≤ 2 ^ 30) (hx : ∀ t ∈ l, smTxn t) : ACalls Tryz.prog Nm.spec_Closed [txnsA l] [] (.bool (closedB l)) [] := by
 refine ACalls_of tab (dr_snd tab mixed) Nm.spec_Closed_h rfl (by kernel_rfl) (Nat.le_of_ble_eq_true rfl) rfl ?_
 have h1 := containsTn_walk Nm.spec_Closed_1 l (fun t => !formed t) (by omega) (fun t ht => notFormed26_walk t (hx t ht))
 have h2 := take_walk [] l (by simp) hl hx
 have e : (l.any fun t => !formed t) = !(l.all fun t => formed t) := by rw [List.not_all_eq_any_not]
 unfold closedB
 cases hf : l.all (fun t => formed t) with
 | false =>
  rw [e, hf] at h1
  refine NCall.call (h1) rfl rfl ?_
  exact NRet.mk [] rfl ⟨.refl _, rfl⟩
 | true =>
  rw [e, hf] at h1
  by_cases hk : (takeT [] l).1.length = l.length
  ·rw [decide_eq_true hk]
   refine NCall.call (h1) rfl rfl ?_
   refine NCall.call (ACalls.args (h2) (by repeat (first | exact LeA.refl _ | exact LeA.nils _ | refine LeA.agg ?_ | refine LeA.list _ ?_ | exact LeAs.nil | refine LeAs.cons ?_ ?_))) rfl rfl ?_
   refine ND.yes (by (simp only [zLm, zLa, zLr, zLc, zLn, zLt, zLd]; omega)) ?_
   exact NRet.mk [] rfl ⟨.refl _, rfl⟩
  ·rw [decide_eq_false hk]
   refine NCall.call (h1) rfl rfl ?_
   refine NCall.call (ACalls.args (h2) (by repeat (first | exact LeA.refl _ | exact LeA.nils _ | refine LeA.agg ?_ | refine LeA.list _ ?_ | exact LeAs.nil | refine LeAs.cons ?_ ?_))) rfl rfl ?_
   refine ND.no (by (simp only [zLm, zLa, zLr, zLc, zLn, zLt, zLd]; omega)) ?_
   exact NRet.mk [] rfl ⟨.refl _, rfl⟩
theorem pick_walk (l : List Txn) (v : List Int) (hl : l.length ≤ 2 ^ 30) (hx : ∀ t ∈ l, smTxn t) (hv : v.length ≤ 2 ^ 38) : ACalls Tryz.prog Nm.spec_Pick [txnsA l, ints v] [] (txnsA (pickT l v)) [] := by
 refine ACalls_of tab (dr_snd tab mixed) Nm.spec_Pick_h rfl (by kernel_rfl) (Nat.le_of_ble_eq_true rfl) rfl ?_
 skip
 refine NLoop.mk [(5, .agg 4)] [1, 5, 8, 9, 10] (fun m vs H => ∃ i, i ≤ l.length ∧ m = l.length - i ∧ H = [.row .vrow (.agg 4) ((pickT (l.take i) v).map txnA)] ∧ vs = [ints v, .own 0 0 ((pickT (l.take i) v).map txnA).length, txnsA l, i64 l.length, i64 i]) rfl ?_ ?_
 ·exact Canon.mk [0] rfl ⟨l.length, 0, Nat.zero_le _, rfl, rfl, by simp [txnsA, ints, i64, pickT]⟩
 rintro m vs H ⟨i, hi, rfl, rfl, rfl⟩
 by_cases hil : i < l.length
 ·have hs := filter_take (fun t : Txn => hasB v t.node t.seq) l hil
  have hfl : (pickT (l.take i) v).length ≤ i := Nat.le_trans (List.length_filter_le _ _) (by rw [List.length_take]; omega)
  have hsm := hx _ (List.getElem_mem hil)
  have k1 := vecHas_walk v l[i].node l[i].seq 0 (by omega)
  have k2 := cloneV_list l[i].deps (by have := hsm.2.1; omega)
  have k3 := txnOnlyAll_walk l[i] hsm
  unfold pickT at *
  generalize (l.take i).filter (fun t : Txn => hasB v t.node t.seq) = F at *
  cases hp : hasB v l[i].node l[i].seq with
  | true =>
   rw [hp, if_pos rfl] at hs
   unfold hasB at hp
   rw [hp] at k1
   refine ND.yes (by omega) ?_
   refine NP.mk (by omega) ?_
   refine NG.mapN (by omega) ?_
   refine NCall.call (dot_walk l[i]) rfl rfl ?_
   refine NCall.call (k1) rfl rfl ?_
   refine NCall.call (k2) rfl rfl ?_
   refine NCall.call (k3) rfl rfl ?_
   refine NFz.own ?_
   refine NApp.endA rfl (by simp; omega) ?_
   refine NW.w ?_
   exact Canon.mk [2] rfl ⟨l.length - (i + 1), by omega, i + 1, by omega, rfl, by rw [hs, List.map_append]; rfl, by rw [hs, List.map_append]; rfl⟩
  | false =>
   rw [hp, if_neg (by simp)] at hs
   unfold hasB at hp
   rw [hp] at k1
   refine ND.yes (by omega) ?_
   refine NP.mk (by omega) ?_
   refine NG.mapN (by omega) ?_
   refine NCall.call (dot_walk l[i]) rfl rfl ?_
   refine NCall.call (k1) rfl rfl ?_
   refine NW.w ?_
   exact Canon.mk [0] rfl ⟨l.length - (i + 1), by omega, i + 1, by omega, rfl, by rw [hs] <;> rfl, by rw [hs] <;> rfl⟩
 have : i = l.length := by omega
 subst this
 rw [List.take_length]
 refine ND.no (by omega) ?_
 exact NRet.mk [] rfl (NFrz.mk ((pickT l v).map txnA) (by simp) (by rw [List.drop_zero, List.take_of_length_le (by simp)]) ⟨.refl _, rfl⟩)
end Go.Bv
namespace Go.Bv
set_option linter.unusedSimpArgs false
set_option linter.unusedVariables false
set_option maxHeartbeats 4000000
set_option maxRecDepth 20000
open Go Go.Proofs
end Go.Bv
namespace Go.Bv
set_option linter.unusedSimpArgs false
set_option linter.unusedVariables false
set_option maxHeartbeats 4000000
set_option maxRecDepth 20000
open Go Go.Proofs
theorem is9_walk (D : List Dot) (d : Dot) (hD : D.length ≤ 2 ^ 40) : ACalls Tryz.prog Nm.ref09_Is [dotsA D, dotA d] [] (.bool (decide (d ∈ D))) [] := by
 refine ACalls_of tab (dr_snd tab mixed) Nm.ref09_Is_h rfl (by kernel_rfl) (Nat.le_of_ble_eq_true rfl) rfl ?_
 skip
 refine NLoop.mk [] [0, 3, 5] (fun m vs H => ∃ i, i ≤ D.length ∧ m = D.length - i ∧ (∀ x ∈ D.take i, decide (d = x) = false) ∧ H = [.row .box (.agg 3) [dotA d]] ∧ vs = [dotsA D, .ptr 0 0 0, i64 i]) rfl ?_ ?_
 ·exact Canon.mk [0] rfl ⟨D.length, 0, Nat.zero_le _, rfl, by simp, rfl, rfl⟩
 ·rintro m vs H ⟨i, hi, rfl, ht, rfl, rfl⟩
  by_cases hil : i < D.length
  ·obtain ⟨f1, f2⟩ := find_step hil ht
   by_cases hp : d = D[i]
   ·have e1 : d.node = D[i].node := by rw [← hp]
    have e2 : d.seq = D[i].seq := by rw [← hp]
    have e3 : d.at' = D[i].at' := by rw [← hp]
    rw [decide_eq_true (show d ∈ D from by rw [hp]; exact List.getElem_mem hil)]
    refine ND.yes (by (simp only [zLm, zLa, zLr, zLc, zLn, zLt, zLd]; omega)) ?_
    refine NP.mk (by kernel_rfl) ?_
    refine NDr.w _ ?_
    refine NDr.w _ ?_
    apply NDr.pure
    ·refine NP.mk (by omega) ?_
     refine NG.mapN (by omega) ?_
     exact ⟨rfl, rfl⟩
    refine NDr.w _ ?_
    apply NDr.rd [0]
    ·intro fH TH
     exact ⟨rfl, rfl⟩
    apply NDr.pure
    ·refine ND.yes (by simp [*]) ?_
     exact ⟨rfl, rfl⟩
    refine NP.mk (by kernel_rfl) ?_
    exact NRet.mk [] rfl ⟨.refl _, rfl⟩
   ·have hne : ¬ (d.node = D[i].node ∧ d.seq = D[i].seq ∧ d.at' = D[i].at') := fun h => hp (Dot.ext h.1 h.2.1 h.2.2)
    refine ND.yes (by (simp only [zLm, zLa, zLr, zLc, zLn, zLt, zLd]; omega)) ?_
    refine NP.mk (by kernel_rfl) ?_
    refine NDr.w _ ?_
    refine NDr.w _ ?_
    apply NDr.pure
    ·refine NP.mk (by omega) ?_
     refine NG.mapN (by omega) ?_
     exact ⟨rfl, rfl⟩
    refine NDr.w _ ?_
    apply NDr.rd [0]
    ·intro fH TH
     exact ⟨rfl, rfl⟩
    apply NDr.pure
    ·exact NB.det
    refine NP.mk (by kernel_rfl) ?_
    refine NB.mk (fun hk3 => ?_) (fun hk3 => ?_)
    ·refine NRet.boolE (b := true) ?_ (NRet.mk [] rfl ⟨.refl _, rfl⟩)
     grind
    refine NW.w ?_
    exact Canon.mk [0] rfl ⟨D.length - (i + 1), by omega, i + 1, by omega, rfl, f2 (decide_eq_false hp), rfl, rfl⟩
  ·have : i = D.length := by omega
   subst this
   rw [List.take_length] at ht
   rw [decide_eq_false fun h => by have := ht d h; simp at this]
   refine ND.no (by (simp only [zLm, zLa, zLr, zLc, zLn, zLt, zLd]; omega)) ?_
   exact NRet.mk [] rfl ⟨.refl _, rfl⟩
theorem same9_walk (a b : List Item) (ha : a.length ≤ 2 ^ 38) : ACalls Tryz.prog Nm.ref09_Same [itemsA a, itemsA b] [] (.bool (decide (a = b))) [] := by
 refine ACalls_of tab (dr_snd tab mixed) Nm.ref09_Same_h rfl (by kernel_rfl) (Nat.le_of_ble_eq_true rfl) rfl ?_
 by_cases hl : a.length = b.length
 ·refine ND.yes (by (simp only [zLm, zLa, zLr, zLc, zLn, zLt, zLd]; omega)) ?_
  refine NLoop.mk [] [0, 1, 5] (fun m vs H => ∃ i, i ≤ a.length ∧ m = a.length - i ∧ a.take i = b.take i ∧ H = [] ∧ vs = [itemsA a, itemsA b, i64 i]) rfl ?_ ?_
  ·exact Canon.mk [] rfl ⟨a.length, 0, Nat.zero_le _, rfl, rfl, rfl, rfl⟩
  ·rintro m vs H ⟨i, hi, rfl, ht, rfl, rfl⟩
   by_cases hil : i < a.length
   ·have hib : i < b.length := by omega
    refine ND.yes (by (simp only [zLm, zLa, zLr, zLc, zLn, zLt, zLd]; omega)) ?_
    refine NP.mk (by kernel_rfl) ?_
    refine NDr.w _ ?_
    refine NDr.w _ ?_
    apply NDr.pure
    ·refine NP.mk (by omega) ?_
     refine NG.mapN (by omega) ?_
     exact ⟨rfl, rfl⟩
    refine NDr.w _ ?_
    refine NDr.w _ ?_
    refine NDr.w _ ?_
    apply NDr.pure
    ·refine NP.mk (by omega) ?_
     refine NG.mapN (by omega) ?_
     exact ⟨rfl, rfl⟩
    refine NDr.w _ ?_
    apply NDr.pure
    ·exact NB.det'
    refine NP.mk (by kernel_rfl) ?_
    refine NB.mk (fun hk3 => ?_) (fun hk3 => ?_)
    ·refine NRet.boolE (b := false) ?_ (NRet.mk [] rfl ⟨.refl _, rfl⟩)
     grind
    refine NW.w ?_
    exact Canon.mk [] rfl ⟨a.length - (i + 1), by omega, i + 1, by omega, rfl, take_eq_next ht hil hib (by grind [Item.ext_iff, Dot.ext_iff]), rfl, rfl⟩
   ·have : i = a.length := by omega
    subst this
    rw [decide_eq_true (take_eq_end hl ht)]
    refine ND.no (by (simp only [zLm, zLa, zLr, zLc, zLn, zLt, zLd]; omega)) ?_
    exact NRet.mk [] rfl ⟨.refl _, rfl⟩
 ·rw [decide_eq_false fun e => hl (by rw [e])]
  refine ND.no (by (simp only [zLm, zLa, zLr, zLc, zLn, zLt, zLd]; omega)) ?_
  exact NRet.mk [] rfl ⟨.refl _, rfl⟩
end Go.Bv
namespace Go.Bv
set_option linter.unusedSimpArgs false
set_option linter.unusedVariables false
set_option maxHeartbeats 4000000
set_option maxRecDepth 20000
open Go Go.Proofs
def pA (p : Int × Int) : AV := .agg [i64 p.1, i64 p.2]
def prs (a b : Item) : List (Int × Int) := [(a.kind, b.kind), (a.dot.node, b.dot.node), (a.dot.seq, b.dot.seq), (a.dot.at', b.dot.at')]
theorem less9_walk (a b : Item) : ACalls Tryz.prog Nm.ref09_Less [itemA a, itemA b] [] (.bool (ltI a b)) [] := by
 refine ACalls_of tab (dr_snd tab mixed) Nm.ref09_Less_h rfl (by kernel_rfl) (Nat.le_of_ble_eq_true rfl) rfl ?_
 by_cases h1 : a.key = b.key
 ·by_cases h2 : a.field = b.field
  ·refine ND.yes (by omega) ?_
   refine ND.yes (by omega) ?_
   refine NLoop.mk [] [2, 3, 53, 54, 55] (fun m vs H => ∃ i, i ≤ 4 ∧ m = 4 - i ∧ (0 < i → a.kind = b.kind) ∧ (1 < i → a.dot.node = b.dot.node) ∧ (2 < i → a.dot.seq = b.dot.seq) ∧ (3 < i → a.dot.at' = b.dot.at') ∧ H = [.row .box (.agg 8) [itemA a], .row .box (.agg 8) [itemA b]] ∧
    vs = [.ptr 0 0 0, .ptr 1 0 0, .list (.agg 2) ((prs a b).map pA), i64 4, i64 i]) rfl ?_ ?_
   ·exact Canon.mk [0, 1] rfl ⟨_, 0, by omega, rfl, fun h => by omega, fun h => by omega, fun h => by omega, fun h => by omega, rfl, rfl⟩
   rintro m vs H ⟨i, hi, rfl, e1, e2, e3, e4, rfl, rfl⟩
   have hlt : ltI a b = decide (a.kind < b.kind ∨ a.kind = b.kind ∧ (a.dot.node < b.dot.node ∨ a.dot.node = b.dot.node ∧ (a.dot.seq < b.dot.seq ∨ a.dot.seq = b.dot.seq ∧ (a.dot.at' < b.dot.at' ∨ a.dot.at' = b.dot.at' ∧ (ltS a.elem b.elem ∨ a.elem = b.elem ∧ a.n < b.n))))) := by
    unfold ltI ILt lexR ltN ltZ
    rw [Bool.eq_iff_iff]
    simp [h1, h2, ltS_irrefl]
   rcases (by omega : i = 0 ∨ i = 1 ∨ i = 2 ∨ i = 3 ∨ i = 4) with rfl | rfl | rfl | rfl | rfl
   ·by_cases hd : a.kind = b.kind
    ·refine ND.yes (by omega) ?_
     refine NP.mk (by omega) ?_
     refine NG.mk _ rfl ?_
     refine NP.mk (by omega) ?_
     refine NP.mk (by omega) ?_
     refine ND.yes (by omega) ?_
     refine NW.w ?_
     exact Canon.mk [0, 1] rfl ⟨3, by omega, 1, by omega, rfl, fun _ => hd, fun h => by omega, fun h => by omega, fun h => by omega, rfl, rfl⟩
    ·rw [hlt, show decide (a.kind < b.kind ∨ a.kind = b.kind ∧ (a.dot.node < b.dot.node ∨ a.dot.node = b.dot.node ∧ (a.dot.seq < b.dot.seq ∨ a.dot.seq = b.dot.seq ∧ (a.dot.at' < b.dot.at' ∨ a.dot.at' = b.dot.at' ∧ (ltS a.elem b.elem ∨ a.elem = b.elem ∧ a.n < b.n))))) = decide (a.kind < b.kind) by rw [Bool.eq_iff_iff]; simp [hd]]
     refine ND.yes (by omega) ?_
     refine NP.mk (by omega) ?_
     refine NG.mk _ rfl ?_
     refine NP.mk (by omega) ?_
     refine NP.mk (by omega) ?_
     refine ND.no (by omega) ?_
     refine NP.mk (by omega) ?_
     refine NP.mk (by omega) ?_
     refine NB.dec (fun hk3 => ?_) (fun hk3 => ?_)
     ·refine NRet.boolE (b := true) ?_ (NRet.mk [] rfl ⟨.refl _, rfl⟩)
      (simp only [decide_eq_true_eq, decide_eq_false_iff_not, eq_comm (a := true), eq_comm (a := false)]; omega)
     refine NRet.boolE (b := false) ?_ (NRet.mk [] rfl ⟨.refl _, rfl⟩)
     (simp only [decide_eq_true_eq, decide_eq_false_iff_not, eq_comm (a := true), eq_comm (a := false)]; omega)
   ·have e1 := e1 (by omega)
    by_cases hd : a.dot.node = b.dot.node
    ·refine ND.yes (by omega) ?_
     refine NP.mk (by omega) ?_
     refine NG.mk _ rfl ?_
     refine NP.mk (by omega) ?_
     refine NP.mk (by omega) ?_
     refine ND.yes (by omega) ?_
     refine NW.w ?_
     exact Canon.mk [0, 1] rfl ⟨2, by omega, 2, by omega, rfl, fun _ => e1, fun _ => hd, fun h => by omega, fun h => by omega, rfl, rfl⟩
    ·rw [hlt, show decide (a.kind < b.kind ∨ a.kind = b.kind ∧ (a.dot.node < b.dot.node ∨ a.dot.node = b.dot.node ∧ (a.dot.seq < b.dot.seq ∨ a.dot.seq = b.dot.seq ∧ (a.dot.at' < b.dot.at' ∨ a.dot.at' = b.dot.at' ∧ (ltS a.elem b.elem ∨ a.elem = b.elem ∧ a.n < b.n))))) = decide (a.dot.node < b.dot.node) by rw [Bool.eq_iff_iff]; simp [hd, e1]]
     refine ND.yes (by omega) ?_
     refine NP.mk (by omega) ?_
     refine NG.mk _ rfl ?_
     refine NP.mk (by omega) ?_
     refine NP.mk (by omega) ?_
     refine ND.no (by omega) ?_
     refine NP.mk (by omega) ?_
     refine NP.mk (by omega) ?_
     refine NB.dec (fun hk3 => ?_) (fun hk3 => ?_)
     ·refine NRet.boolE (b := true) ?_ (NRet.mk [] rfl ⟨.refl _, rfl⟩)
      (simp only [decide_eq_true_eq, decide_eq_false_iff_not, eq_comm (a := true), eq_comm (a := false)]; omega)
     refine NRet.boolE (b := false) ?_ (NRet.mk [] rfl ⟨.refl _, rfl⟩)
     (simp only [decide_eq_true_eq, decide_eq_false_iff_not, eq_comm (a := true), eq_comm (a := false)]; omega)
   ·have e1 := e1 (by omega)
    have e2 := e2 (by omega)
    by_cases hd : a.dot.seq = b.dot.seq
    ·refine ND.yes (by omega) ?_
     refine NP.mk (by omega) ?_
     refine NG.mk _ rfl ?_
     refine NP.mk (by omega) ?_
     refine NP.mk (by omega) ?_
     refine ND.yes (by omega) ?_
     refine NW.w ?_
     exact Canon.mk [0, 1] rfl ⟨1, by omega, 3, by omega, rfl, fun _ => e1, fun _ => e2, fun _ => hd, fun h => by omega, rfl, rfl⟩
    ·rw [hlt, show decide (a.kind < b.kind ∨ a.kind = b.kind ∧ (a.dot.node < b.dot.node ∨ a.dot.node = b.dot.node ∧ (a.dot.seq < b.dot.seq ∨ a.dot.seq = b.dot.seq ∧ (a.dot.at' < b.dot.at' ∨ a.dot.at' = b.dot.at' ∧ (ltS a.elem b.elem ∨ a.elem = b.elem ∧ a.n < b.n))))) = decide (a.dot.seq < b.dot.seq) by rw [Bool.eq_iff_iff]; simp [hd, e1, e2]]
     refine ND.yes (by omega) ?_
     refine NP.mk (by omega) ?_
     refine NG.mk _ rfl ?_
     refine NP.mk (by omega) ?_
     refine NP.mk (by omega) ?_
     refine ND.no (by omega) ?_
     refine NP.mk (by omega) ?_
     refine NP.mk (by omega) ?_
     refine NB.dec (fun hk3 => ?_) (fun hk3 => ?_)
     ·refine NRet.boolE (b := true) ?_ (NRet.mk [] rfl ⟨.refl _, rfl⟩)
      (simp only [decide_eq_true_eq, decide_eq_false_iff_not, eq_comm (a := true), eq_comm (a := false)]; omega)
     refine NRet.boolE (b := false) ?_ (NRet.mk [] rfl ⟨.refl _, rfl⟩)
     (simp only [decide_eq_true_eq, decide_eq_false_iff_not, eq_comm (a := true), eq_comm (a := false)]; omega)
   ·have e1 := e1 (by omega)
    have e2 := e2 (by omega)
    have e3 := e3 (by omega)
    by_cases hd : a.dot.at' = b.dot.at'
    ·refine ND.yes (by omega) ?_
     refine NP.mk (by omega) ?_
     refine NG.mk _ rfl ?_
     refine NP.mk (by omega) ?_
     refine NP.mk (by omega) ?_
     refine ND.yes (by omega) ?_
     refine NW.w ?_
     exact Canon.mk [0, 1] rfl ⟨0, by omega, 4, by omega, rfl, fun _ => e1, fun _ => e2, fun _ => e3, fun _ => hd, rfl, rfl⟩
    ·rw [hlt, show decide (a.kind < b.kind ∨ a.kind = b.kind ∧ (a.dot.node < b.dot.node ∨ a.dot.node = b.dot.node ∧ (a.dot.seq < b.dot.seq ∨ a.dot.seq = b.dot.seq ∧ (a.dot.at' < b.dot.at' ∨ a.dot.at' = b.dot.at' ∧ (ltS a.elem b.elem ∨ a.elem = b.elem ∧ a.n < b.n))))) = decide (a.dot.at' < b.dot.at') by rw [Bool.eq_iff_iff]; simp [hd, e1, e2, e3]]
     refine ND.yes (by omega) ?_
     refine NP.mk (by omega) ?_
     refine NG.mk _ rfl ?_
     refine NP.mk (by omega) ?_
     refine NP.mk (by omega) ?_
     refine ND.no (by omega) ?_
     refine NP.mk (by omega) ?_
     refine NP.mk (by omega) ?_
     refine NB.dec (fun hk3 => ?_) (fun hk3 => ?_)
     ·refine NRet.boolE (b := true) ?_ (NRet.mk [] rfl ⟨.refl _, rfl⟩)
      (simp only [decide_eq_true_eq, decide_eq_false_iff_not, eq_comm (a := true), eq_comm (a := false)]; omega)
     refine NRet.boolE (b := false) ?_ (NRet.mk [] rfl ⟨.refl _, rfl⟩)
     (simp only [decide_eq_true_eq, decide_eq_false_iff_not, eq_comm (a := true), eq_comm (a := false)]; omega)
   ·have e1 := e1 (by omega)
    have e2 := e2 (by omega)
    have e3 := e3 (by omega)
    have e4 := e4 (by omega)
    rw [hlt, show decide (a.kind < b.kind ∨ a.kind = b.kind ∧ (a.dot.node < b.dot.node ∨ a.dot.node = b.dot.node ∧ (a.dot.seq < b.dot.seq ∨ a.dot.seq = b.dot.seq ∧ (a.dot.at' < b.dot.at' ∨ a.dot.at' = b.dot.at' ∧ (ltS a.elem b.elem ∨ a.elem = b.elem ∧ a.n < b.n))))) = decide (ltS a.elem b.elem ∨ a.elem = b.elem ∧ a.n < b.n) by rw [Bool.eq_iff_iff]; simp [e1, e2, e3, e4]]
    by_cases hd : a.elem = b.elem
    ·rw [show decide (ltS a.elem b.elem ∨ a.elem = b.elem ∧ a.n < b.n) = decide (a.n < b.n) by rw [Bool.eq_iff_iff]; simp [hd, ltS_irrefl]]
     refine ND.no (by omega) ?_
     refine ND.yes (by omega) ?_
     refine NB.dec (fun hk3 => ?_) (fun hk3 => ?_)
     ·refine NRet.boolE (b := true) ?_ (NRet.mk [] rfl ⟨.refl _, rfl⟩)
      (simp only [decide_eq_true_eq, decide_eq_false_iff_not, eq_comm (a := true), eq_comm (a := false)]; omega)
     refine NRet.boolE (b := false) ?_ (NRet.mk [] rfl ⟨.refl _, rfl⟩)
     (simp only [decide_eq_true_eq, decide_eq_false_iff_not, eq_comm (a := true), eq_comm (a := false)]; omega)
    ·rw [show decide (ltS a.elem b.elem ∨ a.elem = b.elem ∧ a.n < b.n) = decide (ltS a.elem b.elem) by rw [Bool.eq_iff_iff]; simp [hd], ← bytesLess_lt]
     refine ND.no (by omega) ?_
     refine ND.no (by omega) ?_
     refine NB.dec (fun hk3 => ?_) (fun hk3 => ?_)
     ·refine NRet.boolE (b := true) ?_ (NRet.mk [] rfl ⟨.refl _, rfl⟩)
      (simp only [decide_eq_true_eq, decide_eq_false_iff_not, eq_comm (a := true), eq_comm (a := false)]; omega)
     refine NRet.boolE (b := false) ?_ (NRet.mk [] rfl ⟨.refl _, rfl⟩)
     (simp [*]; done)
  ·have hL : ltI a b = decide (ltS a.field b.field) := by
    unfold ltI ILt lexR
    rw [Bool.eq_iff_iff]
    simp [h1, h2, ltS_irrefl]
   rw [hL, ← bytesLess_lt]
   refine ND.yes (by omega) ?_
   refine ND.no (by omega) ?_
   refine NB.dec (fun hk3 => ?_) (fun hk3 => ?_)
   ·refine NRet.boolE (b := true) ?_ (NRet.mk [] rfl ⟨.refl _, rfl⟩)
    (simp only [decide_eq_true_eq, decide_eq_false_iff_not, eq_comm (a := true), eq_comm (a := false)]; omega)
   refine NRet.boolE (b := false) ?_ (NRet.mk [] rfl ⟨.refl _, rfl⟩)
   (simp [*]; done)
 ·have hL : ltI a b = decide (ltS a.key b.key) := by
   unfold ltI ILt lexR
   rw [Bool.eq_iff_iff]
   simp [h1]
  rw [hL, ← bytesLess_lt]
  refine ND.no (by omega) ?_
  refine NB.dec (fun hk2 => ?_) (fun hk2 => ?_)
  ·refine NRet.boolE (b := true) ?_ (NRet.mk [] rfl ⟨.refl _, rfl⟩)
   (simp only [decide_eq_true_eq, decide_eq_false_iff_not, eq_comm (a := true), eq_comm (a := false)]; omega)
  refine NRet.boolE (b := false) ?_ (NRet.mk [] rfl ⟨.refl _, rfl⟩)
  (simp [*]; done)
theorem put9_walk (l : List Item) (x : Item) (hl : l.length ≤ 2 ^ 38) : ACalls Tryz.prog Nm.ref09_Put [itemsA l, itemA x] [] (itemsA (putI l x)) [] := by
 refine ACalls_of tab (dr_snd tab mixed) Nm.ref09_Put_h rfl (by kernel_rfl) (Nat.le_of_ble_eq_true rfl) rfl ?_
 skip
 refine NLoop.mk [] [0, 3, 5] (fun m vs H => ∃ i, i ≤ l.length ∧ m = l.length - i ∧ (∀ (j : Nat) (h : j < l.length), j < i → ltI l[j] x = true) ∧ H = [.row .box (.agg 8) [itemA x]] ∧ vs = [itemsA l, .ptr 0 0 0, i64 i]) rfl ?_ ?_
 ·exact Canon.mk [0] rfl ⟨l.length, 0, Nat.zero_le _, rfl, fun j h hj => by omega, rfl, rfl⟩
 rintro m vs H ⟨i, hi, rfl, ht, rfl, rfl⟩
 have fin : (∀ h : i < l.length, ltI l[i] x = false) → putI l x = l.take i ++ x :: l.drop i := fun h => putI_at l x i hi ht h
 have et : List.take i (l.map itemA) = (l.take i).map itemA := List.map_take.symm
 have ed : List.drop i (l.map itemA) = (l.drop i).map itemA := List.map_drop.symm
 by_cases hil : i < l.length
 ·have h1 := less9_walk l[i] x
  cases hp : ltI l[i] x with
  | true =>
   rw [hp] at h1
   refine NP.mk (by kernel_rfl) ?_
   refine NDr.w _ ?_
   refine NDr.w _ ?_
   refine NDr.w _ ?_
   apply NDr.pure
   ·refine ND.yes (by (simp only [zLm, zLa, zLr, zLc, zLn, zLt, zLd]; omega)) ?_
    exact ⟨rfl, rfl⟩
   refine NDr.w _ ?_
   refine NDr.w _ ?_
   refine NDr.w _ ?_
   apply NDr.pure
   ·refine NP.mk (by omega) ?_
    refine NG.mapN (by omega) ?_
    exact ⟨rfl, rfl⟩
   refine NDr.w _ ?_
   apply NDr.rd [0]
   ·intro fH TH
    exact ⟨rfl, rfl⟩
   apply NDr.pure
   ·refine NCall.call (h1) rfl rfl ?_
    exact ⟨rfl, rfl⟩
   refine NDr.w _ ?_
   refine NP.mk (by kernel_rfl) ?_
   refine NW.w ?_
   exact Canon.mk [0] rfl ⟨l.length - (i + 1), by omega, i + 1, by omega, rfl, fun j hj hji => by
    rcases Nat.lt_or_ge j i with h | h
    ·exact ht j hj h
    ·have : j = i := by omega
     subst this; exact hp, rfl, rfl⟩
  | false =>
   rw [hp] at h1
   rw [fin fun _ => hp]
   refine NP.mk (by kernel_rfl) ?_
   refine NDr.w _ ?_
   refine NDr.w _ ?_
   refine NDr.w _ ?_
   apply NDr.pure
   ·refine ND.yes (by (simp only [zLm, zLa, zLr, zLc, zLn, zLt, zLd]; omega)) ?_
    exact ⟨rfl, rfl⟩
   refine NDr.w _ ?_
   refine NDr.w _ ?_
   refine NDr.w _ ?_
   apply NDr.pure
   ·refine NP.mk (by omega) ?_
    refine NG.mapN (by omega) ?_
    exact ⟨rfl, rfl⟩
   refine NDr.w _ ?_
   apply NDr.rd [0]
   ·intro fH TH
    exact ⟨rfl, rfl⟩
   apply NDr.pure
   ·refine NCall.call (h1) rfl rfl ?_
    exact ⟨rfl, rfl⟩
   refine NDr.w _ ?_
   refine NP.mk (by kernel_rfl) ?_
   refine NP.mk (by (simp only [zLm, zLa, zLr, zLc, zLn, zLt, zLd]; omega)) ?_
   refine NFz.own ?_
   refine NApp.endA rfl (by simp; omega) ?_
   refine NP.mk (by kernel_rfl) ?_
   apply NDr.any
   ·intro H'
    exact ⟨rfl, rfl⟩
   apply NDr.rd [0]
   ·intro fH TH
    exact ⟨rfl, rfl⟩
   refine NDr.w _ ?_
   apply NDr.efw [2]
   ·refine NFz.own ?_
    refine NApp.endA rfl (by simp; omega) ?_
    exact ⟨rfl, rfl⟩
   ·repeat (first | exact True.intro | refine ⟨by first | exact rfl | exact True.intro, ?_⟩)
   refine NDr.w _ ?_
   refine NDr.w _ ?_
   apply NDr.pure
   ·refine NP.mk (by (simp only [zLm, zLa, zLr, zLc, zLn, zLt, zLd]; omega)) ?_
    exact ⟨rfl, rfl⟩
   apply NDr.efw [3]
   ·refine NFz.own ?_
    refine NApp.endA rfl (by simp; omega) ?_
    exact ⟨rfl, rfl⟩
   ·repeat (first | exact True.intro | refine ⟨by first | exact rfl | exact True.intro, ?_⟩)
   apply NDr.any
   ·intro H'
    exact ⟨rfl, rfl⟩
   refine NP.mk (by kernel_rfl) ?_
   exact NRet.mk [] rfl (NFrz.mk ((l.take i ++ x :: l.drop i).map itemA) (by simp) (by rw [List.drop_zero, List.take_length, Int.toNat_natCast, List.map_append, List.map_cons, List.map_take, List.map_drop, List.append_assoc]; rfl) ⟨.refl _, rfl⟩)
 ·rw [fin fun h => absurd h hil]
  refine NP.mk (by kernel_rfl) ?_
  refine NDr.w _ ?_
  refine NDr.w _ ?_
  refine NDr.w _ ?_
  apply NDr.pure
  ·refine ND.no (by (simp only [zLm, zLa, zLr, zLc, zLn, zLt, zLd]; omega)) ?_
   exact ⟨rfl, rfl⟩
  refine NDr.w _ ?_
  refine NDr.w _ ?_
  refine NP.mk (by kernel_rfl) ?_
  refine NP.mk (by (simp only [zLm, zLa, zLr, zLc, zLn, zLt, zLd]; omega)) ?_
  refine NFz.own ?_
  refine NApp.endA rfl (by simp; omega) ?_
  refine NP.mk (by kernel_rfl) ?_
  apply NDr.any
  ·intro H'
   exact ⟨rfl, rfl⟩
  apply NDr.rd [0]
  ·intro fH TH
   exact ⟨rfl, rfl⟩
  refine NDr.w _ ?_
  apply NDr.efw [2]
  ·refine NFz.own ?_
   refine NApp.endA rfl (by simp; omega) ?_
   exact ⟨rfl, rfl⟩
  ·repeat (first | exact True.intro | refine ⟨by first | exact rfl | exact True.intro, ?_⟩)
  refine NDr.w _ ?_
  refine NDr.w _ ?_
  apply NDr.pure
  ·refine NP.mk (by (simp only [zLm, zLa, zLr, zLc, zLn, zLt, zLd]; omega)) ?_
   exact ⟨rfl, rfl⟩
  apply NDr.efw [3]
  ·refine NFz.own ?_
   refine NApp.endA rfl (by simp; omega) ?_
   exact ⟨rfl, rfl⟩
  ·repeat (first | exact True.intro | refine ⟨by first | exact rfl | exact True.intro, ?_⟩)
  apply NDr.any
  ·intro H'
   exact ⟨rfl, rfl⟩
  refine NP.mk (by kernel_rfl) ?_
  exact NRet.mk [] rfl (NFrz.mk ((l.take i ++ x :: l.drop i).map itemA) (by simp) (by rw [List.drop_zero, List.take_length, Int.toNat_natCast, List.map_append, List.map_cons, List.map_take, List.map_drop, List.append_assoc]; rfl) ⟨.refl _, rfl⟩)
def firstB (l : List Item) (i k : Nat) : Prop := ∀ (j : Nat) (y : Item), j < k → l[j]? = some y → ∀ x, l[i]? = some x → y.dot = x.dot → ¬ ILt y x ∧ ¬ (y = x ∧ j < i)
theorem norm9_walk (l : List Item) (hl : l.length ≤ 60000) : ACalls Tryz.prog Nm.ref09_Norm [itemsA l] [] (itemsA (norm l)) [] := by
 refine ACalls_of tab (dr_snd tab mixed) Nm.ref09_Norm_h rfl (by kernel_rfl) (Nat.le_of_ble_eq_true rfl) rfl ?_
 refine NLoop.mk [] [0, 3, 4] (fun m vs H => ∃ (i : Nat) (out : List Item), i ≤ l.length ∧ m = l.length - i ∧ out.length ≤ i ∧ Laid l out i ∧ H = [] ∧ vs = [itemsA l, itemsA out, i64 i]) rfl ?_ ?_
 ·exact Canon.wk [] [itemsA l, itemsA [], i64 0] rfl ⟨.cons (.refl _) (.cons (.nils _) (.cons (.refl _) .nil)), l.length, 0, [], Nat.zero_le _, rfl, Nat.le_refl _, laid_zero l, rfl, rfl⟩
 rintro m vs H ⟨i, out, hi, rfl, hol, hL, rfl, rfl⟩
 by_cases hil : i < l.length
 ·have hx := List.getElem?_eq_getElem hil
  refine ND.yes (by (simp only [zLm, zLa, zLr, zLc, zLn, zLt, zLd]; omega)) ?_
  refine NLoop.mk [] [0, 3, 4, 5, 6] (fun m vs H => ∃ (k : Nat) (fb : Bool), k ≤ l.length ∧ m = l.length - k ∧ (fb = true ↔ firstB l i k) ∧ H = [] ∧ vs = [itemsA l, itemsA out, i64 i, .bool fb, i64 k]) rfl ?_ ?_
  ·exact Canon.mk [] rfl ⟨l.length, 0, true, Nat.zero_le _, rfl, ⟨fun _ j y hj => by omega, fun _ => rfl⟩, rfl, rfl⟩
  rintro m vs H ⟨k, fb, hk, rfl, hfb, rfl, rfl⟩
  by_cases hkl : k < l.length
  ·have hy := List.getElem?_eq_getElem hkl
   have h1 := less9_walk l[k] l[i]
   have step : ((l[k].dot = l[i].dot → ¬ ILt l[k] l[i] ∧ ¬ (l[k] = l[i] ∧ k < i)) → (fb = true ↔ firstB l i (k + 1))) ∧ (¬ (l[k].dot = l[i].dot → ¬ ILt l[k] l[i] ∧ ¬ (l[k] = l[i] ∧ k < i)) → (false = true ↔ firstB l i (k + 1))) := by
    constructor
    ·intro hb
     rw [hfb]
     constructor
     ·intro h j y hj hjy x hxx hd
      rcases Nat.lt_or_ge j k with h' | h'
      ·exact h j y h' hjy x hxx hd
      ·have : j = k := by omega
       subst this
       rw [hy] at hjy; rw [hx] at hxx
       cases hjy; cases hxx
       exact hb hd
     ·intro h j y hj hjy
      exact h j y (by omega) hjy
    ·intro hb
     refine ⟨fun h => by simp at h, fun h => absurd (fun hd => h k l[k] (by omega) hy l[i] hx hd) hb⟩
   by_cases hd : l[k].dot = l[i].dot
   ·have d1 : l[k].dot.node = l[i].dot.node := by rw [hd]
    have d2 : l[k].dot.seq = l[i].dot.seq := by rw [hd]
    have d3 : l[k].dot.at' = l[i].dot.at' := by rw [hd]
    cases hp : ltI l[k] l[i] with
    | true =>
     rw [hp] at h1
     have st := step.2 fun h => (h hd).1 (of_decide_eq_true hp)
     refine ND.yes (by (simp only [zLm, zLa, zLr, zLc, zLn, zLt, zLd]; omega)) ?_
     refine NP.mk (by kernel_rfl) ?_
     refine NDr.w _ ?_
     refine NDr.w _ ?_
     apply NDr.pure
     ·refine NP.mk (by omega) ?_
      refine NG.mapN (by omega) ?_
      exact ⟨rfl, rfl⟩
     refine NDr.w _ ?_
     refine NDr.w _ ?_
     refine NDr.w _ ?_
     refine NDr.w _ ?_
     apply NDr.pure
     ·refine NP.mk (by omega) ?_
      refine NG.mapN (by omega) ?_
      exact ⟨rfl, rfl⟩
     refine NDr.w _ ?_
     refine NDr.w _ ?_
     apply NDr.pure
     ·refine ND.yes (by simp [*]) ?_
      exact ⟨rfl, rfl⟩
     refine NDr.w _ ?_
     refine NDr.w _ ?_
     refine NDr.w _ ?_
     apply NDr.pure
     ·refine NP.mk (by omega) ?_
      refine NG.mapN (by omega) ?_
      exact ⟨rfl, rfl⟩
     refine NDr.w _ ?_
     refine NDr.w _ ?_
     refine NDr.w _ ?_
     apply NDr.pure
     ·refine NP.mk (by omega) ?_
      refine NG.mapN (by omega) ?_
      exact ⟨rfl, rfl⟩
     refine NDr.w _ ?_
     apply NDr.pure
     ·refine NCall.call (h1) rfl rfl ?_
      exact ⟨rfl, rfl⟩
     refine NDr.w _ ?_
     refine NDr.w _ ?_
     refine NDr.w _ ?_
     refine NP.mk (by kernel_rfl) ?_
     refine NW.w ?_
     exact Canon.mk [] rfl ⟨l.length - (k + 1), by omega, k + 1, false, by omega, rfl, st, rfl, rfl⟩
    | false =>
     rw [hp] at h1
     by_cases he : l[k] = l[i]
     ·by_cases hki : k < i
      ·have st := step.2 fun h => (h hd).2 ⟨he, hki⟩
       refine ND.yes (by (simp only [zLm, zLa, zLr, zLc, zLn, zLt, zLd]; omega)) ?_
       refine NP.mk (by kernel_rfl) ?_
       refine NDr.w _ ?_
       refine NDr.w _ ?_
       apply NDr.pure
       ·refine NP.mk (by omega) ?_
        refine NG.mapN (by omega) ?_
        exact ⟨rfl, rfl⟩
       refine NDr.w _ ?_
       refine NDr.w _ ?_
       refine NDr.w _ ?_
       refine NDr.w _ ?_
       apply NDr.pure
       ·refine NP.mk (by omega) ?_
        refine NG.mapN (by omega) ?_
        exact ⟨rfl, rfl⟩
       refine NDr.w _ ?_
       refine NDr.w _ ?_
       apply NDr.pure
       ·refine ND.yes (by simp [*]) ?_
        exact ⟨rfl, rfl⟩
       refine NDr.w _ ?_
       refine NDr.w _ ?_
       refine NDr.w _ ?_
       apply NDr.pure
       ·refine NP.mk (by omega) ?_
        refine NG.mapN (by omega) ?_
        exact ⟨rfl, rfl⟩
       refine NDr.w _ ?_
       refine NDr.w _ ?_
       refine NDr.w _ ?_
       apply NDr.pure
       ·refine NP.mk (by omega) ?_
        refine NG.mapN (by omega) ?_
        exact ⟨rfl, rfl⟩
       refine NDr.w _ ?_
       apply NDr.pure
       ·refine NCall.call (h1) rfl rfl ?_
        exact ⟨rfl, rfl⟩
       refine NDr.w _ ?_
       refine NDr.w _ ?_
       refine NDr.w _ ?_
       apply NDr.pure
       ·refine NP.mk (by omega) ?_
        refine NG.mapN (by omega) ?_
        exact ⟨rfl, rfl⟩
       refine NDr.w _ ?_
       refine NDr.w _ ?_
       refine NDr.w _ ?_
       apply NDr.pure
       ·refine NP.mk (by omega) ?_
        refine NG.mapN (by omega) ?_
        exact ⟨rfl, rfl⟩
       refine NDr.w _ ?_
       apply NDr.pure
       ·refine ND.yes (by simp [*]) ?_
        exact ⟨rfl, rfl⟩
       refine NDr.w _ ?_
       refine NDr.w _ ?_
       refine NDr.w _ ?_
       apply NDr.pure
       ·refine ND.yes (by omega) ?_
        exact ⟨rfl, rfl⟩
       refine NDr.w _ ?_
       refine NDr.w _ ?_
       refine NDr.w _ ?_
       refine NP.mk (by kernel_rfl) ?_
       refine NW.w ?_
       exact Canon.mk [] rfl ⟨l.length - (k + 1), by omega, k + 1, false, by omega, rfl, st, rfl, rfl⟩
      ·have st := step.1 fun _ => ⟨of_decide_eq_false hp, fun h => hki h.2⟩
       refine ND.yes (by (simp only [zLm, zLa, zLr, zLc, zLn, zLt, zLd]; omega)) ?_
       refine NP.mk (by kernel_rfl) ?_
       refine NDr.w _ ?_
       refine NDr.w _ ?_
       apply NDr.pure
       ·refine NP.mk (by omega) ?_
        refine NG.mapN (by omega) ?_
        exact ⟨rfl, rfl⟩
       refine NDr.w _ ?_
       refine NDr.w _ ?_
       refine NDr.w _ ?_
       refine NDr.w _ ?_
       apply NDr.pure
       ·refine NP.mk (by omega) ?_
        refine NG.mapN (by omega) ?_
        exact ⟨rfl, rfl⟩
       refine NDr.w _ ?_
       refine NDr.w _ ?_
       apply NDr.pure
       ·refine ND.yes (by simp [*]) ?_
        exact ⟨rfl, rfl⟩
       refine NDr.w _ ?_
       refine NDr.w _ ?_
       refine NDr.w _ ?_
       apply NDr.pure
       ·refine NP.mk (by omega) ?_
        refine NG.mapN (by omega) ?_
        exact ⟨rfl, rfl⟩
       refine NDr.w _ ?_
       refine NDr.w _ ?_
       refine NDr.w _ ?_
       apply NDr.pure
       ·refine NP.mk (by omega) ?_
        refine NG.mapN (by omega) ?_
        exact ⟨rfl, rfl⟩
       refine NDr.w _ ?_
       apply NDr.pure
       ·refine NCall.call (h1) rfl rfl ?_
        exact ⟨rfl, rfl⟩
       refine NDr.w _ ?_
       refine NDr.w _ ?_
       refine NDr.w _ ?_
       apply NDr.pure
       ·refine NP.mk (by omega) ?_
        refine NG.mapN (by omega) ?_
        exact ⟨rfl, rfl⟩
       refine NDr.w _ ?_
       refine NDr.w _ ?_
       refine NDr.w _ ?_
       apply NDr.pure
       ·refine NP.mk (by omega) ?_
        refine NG.mapN (by omega) ?_
        exact ⟨rfl, rfl⟩
       refine NDr.w _ ?_
       apply NDr.pure
       ·refine ND.yes (by simp [*]) ?_
        exact ⟨rfl, rfl⟩
       refine NDr.w _ ?_
       refine NDr.w _ ?_
       refine NDr.w _ ?_
       apply NDr.pure
       ·refine ND.no (by omega) ?_
        exact ⟨rfl, rfl⟩
       refine NDr.w _ ?_
       refine NDr.w _ ?_
       refine NDr.w _ ?_
       refine NP.mk (by kernel_rfl) ?_
       refine NW.w ?_
       exact Canon.mk [] rfl ⟨l.length - (k + 1), by omega, k + 1, fb, by omega, rfl, st, rfl, rfl⟩
     ·have st := step.1 fun _ => ⟨of_decide_eq_false hp, fun h => he h.1⟩
      have hne : ¬ (l[k].key = l[i].key ∧ l[k].field = l[i].field ∧ l[k].kind = l[i].kind ∧ l[k].elem = l[i].elem ∧ l[k].n = l[i].n ∧ l[k].dot.node = l[i].dot.node ∧ l[k].dot.seq = l[i].dot.seq ∧ l[k].dot.at' = l[i].dot.at') := fun h => he (Item.ext h.1 h.2.1 h.2.2.1 h.2.2.2.1 h.2.2.2.2.1 hd)
      have hq : ¬ ((decide (l[k].key = l[i].key) && (decide (l[k].field = l[i].field) && (decide (l[k].kind = l[i].kind) && (decide (l[k].elem = l[i].elem) && (decide (l[k].n = l[i].n) && (decide (l[k].dot.node = l[i].dot.node) && (decide (l[k].dot.seq = l[i].dot.seq) && (decide (l[k].dot.at' = l[i].dot.at') && true)))))))) = true) := fun h => by
       simp only [Bool.and_eq_true, decide_eq_true_eq, and_true] at h
       exact hne h
      refine ND.yes (by (simp only [zLm, zLa, zLr, zLc, zLn, zLt, zLd]; omega)) ?_
      refine NP.mk (by kernel_rfl) ?_
      refine NDr.w _ ?_
      refine NDr.w _ ?_
      apply NDr.pure
      ·refine NP.mk (by omega) ?_
       refine NG.mapN (by omega) ?_
       exact ⟨rfl, rfl⟩
      refine NDr.w _ ?_
      refine NDr.w _ ?_
      refine NDr.w _ ?_
      refine NDr.w _ ?_
      apply NDr.pure
      ·refine NP.mk (by omega) ?_
       refine NG.mapN (by omega) ?_
       exact ⟨rfl, rfl⟩
      refine NDr.w _ ?_
      refine NDr.w _ ?_
      apply NDr.pure
      ·refine ND.yes (by simp [*]) ?_
       exact ⟨rfl, rfl⟩
      refine NDr.w _ ?_
      refine NDr.w _ ?_
      refine NDr.w _ ?_
      apply NDr.pure
      ·refine NP.mk (by omega) ?_
       refine NG.mapN (by omega) ?_
       exact ⟨rfl, rfl⟩
      refine NDr.w _ ?_
      refine NDr.w _ ?_
      refine NDr.w _ ?_
      apply NDr.pure
      ·refine NP.mk (by omega) ?_
       refine NG.mapN (by omega) ?_
       exact ⟨rfl, rfl⟩
      refine NDr.w _ ?_
      apply NDr.pure
      ·refine NCall.call (h1) rfl rfl ?_
       exact ⟨rfl, rfl⟩
      refine NDr.w _ ?_
      refine NDr.w _ ?_
      refine NDr.w _ ?_
      apply NDr.pure
      ·refine NP.mk (by omega) ?_
       refine NG.mapN (by omega) ?_
       exact ⟨rfl, rfl⟩
      refine NDr.w _ ?_
      refine NDr.w _ ?_
      refine NDr.w _ ?_
      apply NDr.pure
      ·refine NP.mk (by omega) ?_
       refine NG.mapN (by omega) ?_
       exact ⟨rfl, rfl⟩
      refine NDr.w _ ?_
      apply NDr.pure
      ·refine ND.no (by assumption) ?_
       exact ⟨rfl, rfl⟩
      refine NDr.w _ ?_
      refine NDr.w _ ?_
      refine NDr.w _ ?_
      refine NDr.w _ ?_
      refine NP.mk (by kernel_rfl) ?_
      refine NW.w ?_
      exact Canon.mk [] rfl ⟨l.length - (k + 1), by omega, k + 1, fb, by omega, rfl, st, rfl, rfl⟩
   ·have st := step.1 fun h => absurd h hd
    have dn : ¬ (l[k].dot.node = l[i].dot.node ∧ l[k].dot.seq = l[i].dot.seq ∧ l[k].dot.at' = l[i].dot.at') := fun h => hd (Dot.ext h.1 h.2.1 h.2.2)
    refine ND.yes (by (simp only [zLm, zLa, zLr, zLc, zLn, zLt, zLd]; omega)) ?_
    refine NP.mk (by kernel_rfl) ?_
    refine NDr.w _ ?_
    refine NDr.w _ ?_
    apply NDr.pure
    ·refine NP.mk (by omega) ?_
     refine NG.mapN (by omega) ?_
     exact ⟨rfl, rfl⟩
    refine NDr.w _ ?_
    refine NDr.w _ ?_
    refine NDr.w _ ?_
    refine NDr.w _ ?_
    apply NDr.pure
    ·refine NP.mk (by omega) ?_
     refine NG.mapN (by omega) ?_
     exact ⟨rfl, rfl⟩
    refine NDr.w _ ?_
    refine NDr.w _ ?_
    apply NDr.pure
    ·refine ND.no (by simp [*]) ?_
     exact ⟨rfl, rfl⟩
    refine NDr.w _ ?_
    refine NDr.w _ ?_
    refine NP.mk (by kernel_rfl) ?_
    refine NW.w ?_
    exact Canon.mk [] rfl ⟨l.length - (k + 1), by omega, k + 1, fb, by omega, rfl, st, rfl, rfl⟩
  ·have : k = l.length := by omega
   subst this
   have hfa : firstB l i l.length ↔ firstAt l i l[i] := by
    constructor
    ·intro h k y hy hd
     exact h k y (List.getElem?_eq_some_iff.1 hy).1 hy l[i] hx hd
    ·intro h j y _ hy x hxx hd
     rw [hx] at hxx; cases hxx
     exact h j y hy hd
   rw [hfa] at hfb
   have h2 := put9_walk out l[i] (by omega)
   have hpl := (putI_perm out l[i]).length_eq
   rw [List.length_cons] at hpl
   cases fb with
   | true =>
    have st := laid_put hL hx (hfb.1 rfl)
    refine ND.no (by (simp only [zLm, zLa, zLr, zLc, zLn, zLt, zLd]; omega)) ?_
    refine NP.mk (by omega) ?_
    refine NG.mapN (by omega) ?_
    refine NCall.call (h2) rfl rfl ?_
    refine NW.w ?_
    exact Canon.mk [] rfl ⟨l.length - (i + 1), by omega, i + 1, putI out l[i], by omega, rfl, by omega, st, rfl, rfl⟩
   | false =>
    have st := laid_skip hL hx (fun h => by have := hfb.2 h; simp at this)
    refine ND.no (by (simp only [zLm, zLa, zLr, zLc, zLn, zLt, zLd]; omega)) ?_
    refine NW.w ?_
    exact Canon.mk [] rfl ⟨l.length - (i + 1), by omega, i + 1, out, by omega, rfl, by omega, st, rfl, rfl⟩
 ·have : i = l.length := by omega
  subst this
  rw [← laid_end hL]
  refine ND.no (by (simp only [zLm, zLa, zLr, zLc, zLn, zLt, zLd]; omega)) ?_
  exact NRet.mk [] rfl ⟨.refl _, rfl⟩
end Go.Bv
namespace Go.Bv
set_option linter.unusedSimpArgs false
set_option linter.unusedVariables false
set_option maxHeartbeats 4000000
set_option maxRecDepth 20000
open Go Go.Proofs
theorem dropped26_walk (l : List Txn) (d : Dot) (hl : l.length ≤ 2 ^ 38) (hx : ∀ t ∈ l, smTxn t) : ACalls Tryz.prog Nm.ref26_dropped [txnsA l, dotA d] [] (.bool (decide (d ∈ dropsT l))) [] := by
 refine ACalls_of tab (dr_snd tab mixed) Nm.ref26_dropped_h rfl (by kernel_rfl) (Nat.le_of_ble_eq_true rfl) rfl ?_
 skip
 refine NLoop.mk [] [0, 3, 5] (fun m vs H => ∃ i, i ≤ l.length ∧ m = l.length - i ∧ (∀ t ∈ l.take i, d ∉ dropsE t.effs) ∧ H = [.row .box (.agg 3) [dotA d]] ∧ vs = [txnsA l, .ptr 0 0 0, i64 i]) rfl ?_ ?_
 ·exact Canon.mk [0] rfl ⟨l.length, 0, Nat.zero_le _, rfl, by simp, rfl, rfl⟩
 rintro m vs H ⟨i, hi, rfl, ht, rfl, rfl⟩
 by_cases hil : i < l.length
 ·have hs := hx _ (List.getElem_mem hil)
  have hel := hs.2.2.1
  refine ND.yes (by (simp only [zLm, zLa, zLr, zLc, zLn, zLt, zLd]; omega)) ?_
  refine NLoop.mk [] [0, 3, 5, 6] (fun m vs H => ∃ k, k ≤ l[i].effs.length ∧ m = l[i].effs.length - k ∧ (∀ e ∈ l[i].effs.take k, d ∉ e.drops) ∧ H = [.row .box (.agg 3) [dotA d]] ∧ vs = [txnsA l, .ptr 0 0 0, i64 i, i64 k]) rfl ?_ ?_
  ·exact Canon.mk [0] rfl ⟨l[i].effs.length, 0, Nat.zero_le _, rfl, by simp, rfl, rfl⟩
  rintro m vs H ⟨k, hk, rfl, hu, rfl, rfl⟩
  by_cases hkl : k < l[i].effs.length
  ·have k1 := is9_walk l[i].effs[k].drops d (hs.2.2.2 _ (List.getElem_mem hkl)).2.2.2
   by_cases hd : d ∈ l[i].effs[k].drops
   ·rw [decide_eq_true hd] at k1
    rw [decide_eq_true (mem_dropsT.2 ⟨l[i], List.getElem_mem hil, l[i].effs[k], List.getElem_mem hkl, hd⟩)]
    refine NP.mk (by omega) ?_
    refine NG.mapN (by omega) ?_
    refine ND.yes (by (simp only [zLm, zLa, zLr, zLc, zLn, zLt, zLd]; omega)) ?_
    refine NP.mk (by kernel_rfl) ?_
    refine NDr.w _ ?_
    refine NDr.w _ ?_
    apply NDr.pure
    ·refine NP.mk (by omega) ?_
     refine NG.mapN (by omega) ?_
     exact ⟨rfl, rfl⟩
    refine NDr.w _ ?_
    refine NDr.w _ ?_
    refine NDr.w _ ?_
    apply NDr.pure
    ·refine NP.mk (by omega) ?_
     refine NG.mapN (by omega) ?_
     exact ⟨rfl, rfl⟩
    refine NDr.w _ ?_
    refine NDr.w _ ?_
    apply NDr.rd [0]
    ·intro fH TH
     exact ⟨rfl, rfl⟩
    apply NDr.pure
    ·refine NCall.call (k1) rfl rfl ?_
     exact ⟨rfl, rfl⟩
    refine NP.mk (by kernel_rfl) ?_
    exact NRet.mk [] rfl ⟨.refl _, rfl⟩
   ·rw [decide_eq_false hd] at k1
    refine NP.mk (by omega) ?_
    refine NG.mapN (by omega) ?_
    refine ND.yes (by (simp only [zLm, zLa, zLr, zLc, zLn, zLt, zLd]; omega)) ?_
    refine NP.mk (by kernel_rfl) ?_
    refine NDr.w _ ?_
    refine NDr.w _ ?_
    apply NDr.pure
    ·refine NP.mk (by omega) ?_
     refine NG.mapN (by omega) ?_
     exact ⟨rfl, rfl⟩
    refine NDr.w _ ?_
    refine NDr.w _ ?_
    refine NDr.w _ ?_
    apply NDr.pure
    ·refine NP.mk (by omega) ?_
     refine NG.mapN (by omega) ?_
     exact ⟨rfl, rfl⟩
    refine NDr.w _ ?_
    refine NDr.w _ ?_
    apply NDr.rd [0]
    ·intro fH TH
     exact ⟨rfl, rfl⟩
    apply NDr.pure
    ·refine NCall.call (k1) rfl rfl ?_
     exact ⟨rfl, rfl⟩
    refine NP.mk (by kernel_rfl) ?_
    refine NW.w ?_
    exact Canon.mk [0] rfl ⟨l[i].effs.length - (k + 1), by omega, k + 1, by omega, rfl, all_take hkl hu hd, rfl, rfl⟩
  have : k = l[i].effs.length := by omega
  subst this
  rw [List.take_length] at hu
  refine NP.mk (by omega) ?_
  refine NG.mapN (by omega) ?_
  refine ND.no (by (simp only [zLm, zLa, zLr, zLc, zLn, zLt, zLd]; omega)) ?_
  refine NW.w ?_
  exact Canon.mk [0] rfl ⟨l.length - (i + 1), by omega, i + 1, by omega, rfl, all_take hil ht (fun h => by
   obtain ⟨e, he, hd⟩ := mem_dropsE.1 h
   exact hu e he hd), rfl, rfl⟩
 have : i = l.length := by omega
 subst this
 rw [List.take_length] at ht
 rw [decide_eq_false (fun h => by
  obtain ⟨t, h1, e, h2, h3⟩ := mem_dropsT.1 h
  exact ht t h1 (mem_dropsE.2 ⟨e, h2, h3⟩))]
 refine ND.no (by (simp only [zLm, zLa, zLr, zLc, zLn, zLt, zLd]; omega)) ?_
 exact NRet.mk [] rfl ⟨.refl _, rfl⟩
def keepE (l : List Txn) (t : Txn) (e : Eff) : Bool := decide (e.kind ≠ 0 ∧ (⟨t.node, t.seq, e.at'⟩ : Dot) ∉ dropsT l)
def madeOf (l : List Txn) (t : Txn) (es : List Eff) : List Item := (es.filter (keepE l t)).map (made t.node t.seq)
theorem madeOf_snoc {l : List Txn} {t : Txn} {es : List Eff} {k : Nat} (h : k < es.length) : madeOf l t (es.take (k + 1)) = if keepE l t es[k] then madeOf l t (es.take k) ++ [made t.node t.seq es[k]] else madeOf l t (es.take k) := by
 unfold madeOf
 rw [filter_take (keepE l t) es h]
 split <;> simp
def madeTo (l m : List Txn) : List Item := m.flatMap fun t => madeOf l t t.effs
theorem madeTo_snoc {l m : List Txn} {i : Nat} (h : i < m.length) : madeTo l (m.take (i + 1)) = madeTo l (m.take i) ++ madeOf l m[i] m[i].effs := by
 unfold madeTo
 rw [List.take_succ_eq_append_getElem h, List.flatMap_append]
 simp
theorem madeOf_len (l : List Txn) (t : Txn) (es : List Eff) : (madeOf l t es).length ≤ es.length := by
 unfold madeOf
 rw [List.length_map]
 exact List.length_filter_le _ _
theorem madeTo_len (l : List Txn) : ∀ {m : List Txn}, (∀ t ∈ m, t.effs.length ≤ 100) → (madeTo l m).length ≤ 100 * m.length
 | [], _ => Nat.le_refl _
 | t :: m, h => by
  have ih := madeTo_len l fun t' ht' => h t' (List.mem_cons_of_mem _ ht')
  have h1 := madeOf_len l t t.effs
  have h2 := h t (List.mem_cons_self ..)
  unfold madeTo at *
  rw [List.flatMap_cons, List.length_append, List.length_cons]
  omega
theorem madeTo_all (l : List Txn) : madeTo l l = madeL' l := rfl
theorem means26_walk (l : List Txn) (hl : l.length ≤ 500) (hx : ∀ t ∈ l, smTxn t) (hn : ∀ t ∈ l, t.effs.length ≤ 100) : ACalls Tryz.prog Nm.ref26_Means [txnsA l] [] (itemsA (means l)) [] := by
 refine ACalls_of tab (dr_snd tab mixed) Nm.ref26_Means_h rfl (by kernel_rfl) (Nat.le_of_ble_eq_true rfl) rfl ?_
 refine NLoop.mk [(3, .agg 8)] [0, 3, 4] (fun m vs H => ∃ i, i ≤ l.length ∧ m = l.length - i ∧ H = [.row .vrow (.agg 8) ((madeTo l (l.take i)).map itemA)] ∧ vs = [txnsA l, .own 0 0 ((madeTo l (l.take i)).map itemA).length, i64 i]) rfl ?_ ?_
 ·exact Canon.mk [0] rfl ⟨l.length, 0, Nat.zero_le _, rfl, rfl, rfl⟩
 rintro m vs H ⟨i, hi, rfl, rfl, rfl⟩
 by_cases hil : i < l.length
 ·have hs := hx _ (List.getElem_mem hil)
  have hsn := madeTo_snoc (l := l) hil
  have hml := madeTo_len l (m := l.take i) (fun t ht => hn t (List.mem_of_mem_take ht))
  rw [List.length_take] at hml
  have hni := hn _ (List.getElem_mem hil)
  generalize madeTo l (l.take i) = M at *
  refine ND.yes (by (simp only [zLm, zLa, zLr, zLc, zLn, zLt, zLd]; omega)) ?_
  refine NLoop.mk [] [0, 3, 4, 5] (fun m vs H => ∃ k, k ≤ l[i].effs.length ∧ m = l[i].effs.length - k ∧ H = [.row .vrow (.agg 8) ((M ++ madeOf l l[i] (l[i].effs.take k)).map itemA)] ∧ vs = [txnsA l, .own 0 0 ((M ++ madeOf l l[i] (l[i].effs.take k)).map itemA).length, i64 i, i64 k]) rfl ?_ ?_
  ·exact Canon.mk [0] rfl ⟨l[i].effs.length, 0, Nat.zero_le _, rfl, by simp [madeOf], by simp [madeOf, txnsA, i64]⟩
  rintro m vs H ⟨k, hk, rfl, rfl, rfl⟩
  by_cases hkl : k < l[i].effs.length
  ·have k1 := made10_walk l[i].node l[i].seq l[i].effs[k]
   have k2 := dropped26_walk l (made l[i].node l[i].seq l[i].effs[k]).dot (by omega) hx
   have hmo := madeOf_snoc (l := l) (t := l[i]) hkl
   have hmol := madeOf_len l l[i] (l[i].effs.take k)
   rw [List.length_take] at hmol
   obtain ⟨N, hN⟩ : ∃ N, N = M ++ madeOf l l[i] (l[i].effs.take k) := ⟨_, rfl⟩
   have hNl : N.length ≤ 2 ^ 30 := by rw [hN, List.length_append]; omega
   rw [← hN]
   have hm' : M ++ madeOf l l[i] (l[i].effs.take (k + 1)) = if keepE l l[i] l[i].effs[k] then N ++ [made l[i].node l[i].seq l[i].effs[k]] else N := by
    rw [hmo, hN]; split
    ·rw [List.append_assoc]
    ·rfl
   by_cases hk0 : (made l[i].node l[i].seq l[i].effs[k]).kind = 0
   ·rw [show keepE l l[i] l[i].effs[k] = false from decide_eq_false fun h => h.1 hk0, if_neg (by simp)] at hm'
    refine NP.mk (by omega) ?_
    refine NG.mapN (by omega) ?_
    refine ND.yes (by (simp only [zLm, zLa, zLr, zLc, zLn, zLt, zLd]; omega)) ?_
    refine NP.mk (by kernel_rfl) ?_
    refine NDr.w _ ?_
    refine NDr.w _ ?_
    apply NDr.pure
    ·refine NP.mk (by omega) ?_
     refine NG.mapN (by omega) ?_
     exact ⟨rfl, rfl⟩
    refine NDr.w _ ?_
    refine NDr.w _ ?_
    refine NDr.w _ ?_
    refine NDr.w _ ?_
    apply NDr.pure
    ·refine NP.mk (by omega) ?_
     refine NG.mapN (by omega) ?_
     exact ⟨rfl, rfl⟩
    refine NDr.w _ ?_
    refine NDr.w _ ?_
    refine NDr.w _ ?_
    refine NDr.w _ ?_
    apply NDr.pure
    ·refine NP.mk (by omega) ?_
     refine NG.mapN (by omega) ?_
     exact ⟨rfl, rfl⟩
    refine NDr.w _ ?_
    refine NDr.w _ ?_
    refine NDr.w _ ?_
    apply NDr.pure
    ·refine NP.mk (by omega) ?_
     refine NG.mapN (by omega) ?_
     exact ⟨rfl, rfl⟩
    refine NDr.w _ ?_
    apply NDr.pure
    ·refine NCall.call (k1) rfl rfl ?_
     exact ⟨rfl, rfl⟩
    apply NDr.efw []
    ·exact ⟨rfl, rfl⟩
    ·repeat (first | exact True.intro | refine ⟨by first | exact rfl | exact True.intro, ?_⟩)
    apply NDr.efw [1]
    ·exact ⟨rfl, rfl⟩
    ·repeat (first | exact True.intro | refine ⟨by first | exact rfl | exact True.intro, ?_⟩)
    refine NP.mk (by kernel_rfl) ?_
    refine ND.yes (by omega) ?_
    refine NW.w ?_
    exact Canon.mk [0] rfl ⟨l[i].effs.length - (k + 1), by omega, k + 1, by omega, rfl, by rw [hm'] <;> rfl, by rw [hm'] <;> rfl⟩
   ·by_cases hd : (made l[i].node l[i].seq l[i].effs[k]).dot ∈ dropsT l
    ·rw [decide_eq_true hd] at k2
     rw [show keepE l l[i] l[i].effs[k] = false from decide_eq_false fun h => h.2 hd, if_neg (by simp)] at hm'
     refine NP.mk (by omega) ?_
     refine NG.mapN (by omega) ?_
     refine ND.yes (by (simp only [zLm, zLa, zLr, zLc, zLn, zLt, zLd]; omega)) ?_
     refine NP.mk (by kernel_rfl) ?_
     refine NDr.w _ ?_
     refine NDr.w _ ?_
     apply NDr.pure
     ·refine NP.mk (by omega) ?_
      refine NG.mapN (by omega) ?_
      exact ⟨rfl, rfl⟩
     refine NDr.w _ ?_
     refine NDr.w _ ?_
     refine NDr.w _ ?_
     refine NDr.w _ ?_
     apply NDr.pure
     ·refine NP.mk (by omega) ?_
      refine NG.mapN (by omega) ?_
      exact ⟨rfl, rfl⟩
     refine NDr.w _ ?_
     refine NDr.w _ ?_
     refine NDr.w _ ?_
     refine NDr.w _ ?_
     apply NDr.pure
     ·refine NP.mk (by omega) ?_
      refine NG.mapN (by omega) ?_
      exact ⟨rfl, rfl⟩
     refine NDr.w _ ?_
     refine NDr.w _ ?_
     refine NDr.w _ ?_
     apply NDr.pure
     ·refine NP.mk (by omega) ?_
      refine NG.mapN (by omega) ?_
      exact ⟨rfl, rfl⟩
     refine NDr.w _ ?_
     apply NDr.pure
     ·refine NCall.call (k1) rfl rfl ?_
      exact ⟨rfl, rfl⟩
     apply NDr.efw []
     ·exact ⟨rfl, rfl⟩
     ·repeat (first | exact True.intro | refine ⟨by first | exact rfl | exact True.intro, ?_⟩)
     apply NDr.efw [1]
     ·exact ⟨rfl, rfl⟩
     ·repeat (first | exact True.intro | refine ⟨by first | exact rfl | exact True.intro, ?_⟩)
     refine NP.mk (by kernel_rfl) ?_
     refine ND.no (by omega) ?_
     refine NCall.call (k2) rfl rfl ?_
     refine NW.w ?_
     exact Canon.mk [0] rfl ⟨l[i].effs.length - (k + 1), by omega, k + 1, by omega, rfl, by rw [hm'] <;> rfl, by rw [hm'] <;> rfl⟩
    ·rw [decide_eq_false hd] at k2
     rw [show keepE l l[i] l[i].effs[k] = true from decide_eq_true ⟨hk0, hd⟩, if_pos rfl] at hm'
     refine NP.mk (by omega) ?_
     refine NG.mapN (by omega) ?_
     refine ND.yes (by (simp only [zLm, zLa, zLr, zLc, zLn, zLt, zLd]; omega)) ?_
     refine NP.mk (by kernel_rfl) ?_
     refine NDr.w _ ?_
     refine NDr.w _ ?_
     apply NDr.pure
     ·refine NP.mk (by omega) ?_
      refine NG.mapN (by omega) ?_
      exact ⟨rfl, rfl⟩
     refine NDr.w _ ?_
     refine NDr.w _ ?_
     refine NDr.w _ ?_
     refine NDr.w _ ?_
     apply NDr.pure
     ·refine NP.mk (by omega) ?_
      refine NG.mapN (by omega) ?_
      exact ⟨rfl, rfl⟩
     refine NDr.w _ ?_
     refine NDr.w _ ?_
     refine NDr.w _ ?_
     refine NDr.w _ ?_
     apply NDr.pure
     ·refine NP.mk (by omega) ?_
      refine NG.mapN (by omega) ?_
      exact ⟨rfl, rfl⟩
     refine NDr.w _ ?_
     refine NDr.w _ ?_
     refine NDr.w _ ?_
     apply NDr.pure
     ·refine NP.mk (by omega) ?_
      refine NG.mapN (by omega) ?_
      exact ⟨rfl, rfl⟩
     refine NDr.w _ ?_
     apply NDr.pure
     ·refine NCall.call (k1) rfl rfl ?_
      exact ⟨rfl, rfl⟩
     apply NDr.efw []
     ·exact ⟨rfl, rfl⟩
     ·repeat (first | exact True.intro | refine ⟨by first | exact rfl | exact True.intro, ?_⟩)
     apply NDr.efw [1]
     ·exact ⟨rfl, rfl⟩
     ·repeat (first | exact True.intro | refine ⟨by first | exact rfl | exact True.intro, ?_⟩)
     refine NP.mk (by kernel_rfl) ?_
     refine ND.no (by omega) ?_
     refine NCall.call (k2) rfl rfl ?_
     refine NFz.own ?_
     refine NApp.endA rfl (by simp; omega) ?_
     refine NW.w ?_
     exact Canon.mk [2] rfl ⟨l[i].effs.length - (k + 1), by omega, k + 1, by omega, rfl, by rw [hm', List.map_append]; rfl, by rw [hm', List.map_append]; rfl⟩
  have : k = l[i].effs.length := by omega
  subst this
  rw [List.take_length]
  rw [← hsn]
  refine NP.mk (by omega) ?_
  refine NG.mapN (by omega) ?_
  refine ND.no (by (simp only [zLm, zLa, zLr, zLc, zLn, zLt, zLd]; omega)) ?_
  refine NW.w ?_
  exact Canon.mk [0] rfl ⟨l.length - (i + 1), by omega, i + 1, by omega, rfl, rfl, rfl⟩
 have : i = l.length := by omega
 subst this
 rw [List.take_length, madeTo_all]
 have hml := madeTo_len l (m := l) hn
 rw [madeTo_all] at hml
 have k3 := norm9_walk (madeL' l) (by omega)
 unfold means
 generalize madeL' l = M at *
 refine ND.no (by (simp only [zLm, zLa, zLr, zLc, zLn, zLt, zLd]; omega)) ?_
 refine NCall.eq (by simp only [List.length_map] <;> exact rfl) ?_
 refine NCall.frzAllN [0] (k3) (.cons (.own (by simp) rfl (by simp) (by simp) (by rw [List.drop_zero, List.take_of_length_le (by simp)])) .nil) rfl rfl rfl ?_
 exact NRet.mk [] rfl ⟨.refl _, rfl⟩
theorem is26_walk (l : List Txn) (node n : Int) (hl : l.length ≤ 2 ^ 38) : ACalls Tryz.prog Nm.ref26_is [txnsA l, i64 node, i64 n] [] (.bool (thereB l node n)) [] := by
 refine ACalls_of tab (dr_snd tab mixed) Nm.ref26_is_h rfl (by kernel_rfl) (Nat.le_of_ble_eq_true rfl) rfl ?_
 unfold thereB
 refine NLoop.mk [] [0, 1, 2, 7] (fun m vs H => ∃ i, i ≤ l.length ∧ m = l.length - i ∧ (∀ x ∈ l.take i, decide (x.node = node ∧ x.seq = n) = false) ∧ H = [] ∧ vs = [txnsA l, i64 node, i64 n, i64 i]) rfl ?_ ?_
 ·exact Canon.mk [] rfl ⟨l.length, 0, Nat.zero_le _, rfl, by simp, rfl, rfl⟩
 rintro m vs H ⟨i, hi, rfl, ht, rfl, rfl⟩
 by_cases hil : i < l.length
 ·obtain ⟨f1, f2⟩ := find_step (p := fun t : Txn => decide (t.node = node ∧ t.seq = n)) hil ht
  by_cases e1 : l[i].node = node
  ·by_cases e2 : l[i].seq = n
   ·rw [show (l.any fun t => decide (t.node = node ∧ t.seq = n)) = true from List.any_eq_true.2 ⟨l[i], List.getElem_mem hil, decide_eq_true ⟨e1, e2⟩⟩]
    refine ND.yes (by (simp only [zLm, zLa, zLr, zLc, zLn, zLt, zLd]; omega)) ?_
    refine NP.mk (by omega) ?_
    refine NG.mapN (by omega) ?_
    refine ND.yes (by omega) ?_
    refine NP.mk (by omega) ?_
    refine NG.mapN (by omega) ?_
    refine ND.yes (by omega) ?_
    exact NRet.mk [] rfl ⟨.refl _, rfl⟩
   ·have f2 := f2 (decide_eq_false fun h => e2 h.2)
    refine ND.yes (by (simp only [zLm, zLa, zLr, zLc, zLn, zLt, zLd]; omega)) ?_
    refine NP.mk (by omega) ?_
    refine NG.mapN (by omega) ?_
    refine ND.yes (by omega) ?_
    refine NP.mk (by omega) ?_
    refine NG.mapN (by omega) ?_
    refine ND.no (by omega) ?_
    refine NW.w ?_
    exact Canon.mk [] rfl ⟨l.length - (i + 1), by omega, i + 1, by omega, rfl, f2, rfl, rfl⟩
  ·have f2 := f2 (decide_eq_false fun h => e1 h.1)
   refine ND.yes (by (simp only [zLm, zLa, zLr, zLc, zLn, zLt, zLd]; omega)) ?_
   refine NP.mk (by omega) ?_
   refine NG.mapN (by omega) ?_
   refine ND.no (by omega) ?_
   refine NW.w ?_
   exact Canon.mk [] rfl ⟨l.length - (i + 1), by omega, i + 1, by omega, rfl, f2, rfl, rfl⟩
 have : i = l.length := by omega
 subst this
 rw [List.take_length] at ht
 have : (l.any fun t => decide (t.node = node ∧ t.seq = n)) = false := by
  rw [← Bool.not_eq_true, List.any_eq_true]
  rintro ⟨x, h1, h2⟩
  rw [ht x h1] at h2; cases h2
 rw [this]
 refine ND.no (by (simp only [zLm, zLa, zLr, zLc, zLn, zLt, zLd]; omega)) ?_
 exact NRet.mk [] rfl ⟨.refl _, rfl⟩
theorem heard26_walk (l : List Txn) (hl : l.length ≤ 5000) : ACalls Tryz.prog Nm.ref26_Heard [txnsA l] [] (ints (heardP l)) [] := by
 refine ACalls_of tab (dr_snd tab mixed) Nm.ref26_Heard_h rfl (by kernel_rfl) (Nat.le_of_ble_eq_true rfl) rfl ?_
 unfold heardP
 refine NLoop.mk [(3, .leaf)] [0, 3, 4] (fun m vs H => ∃ i : Nat, i ≤ 8 ∧ m = 8 - i ∧ H = [.row .vrow .leaf ((tab0 (fun i => (runT l (i : Int) : Int)) i).map i64)] ∧ vs = [txnsA l, .own 0 0 ((tab0 (fun i => (runT l (i : Int) : Int)) i).map i64).length, i64 i]) rfl ?_ ?_
 ·exact Canon.mk [0] rfl ⟨8, 0, Nat.zero_le _, rfl, rfl, rfl⟩
 rintro m vs H ⟨i, hi, rfl, rfl, rfl⟩
 have htl := tab0_len (fun i => (runT l (i : Int) : Int)) i
 by_cases hil : i < 8
 ·obtain ⟨hr1, hr2⟩ := runT_spec l (i : Int)
  have hrl := runT_le l (i : Int)
  have hts := tab0_succ (fun i => (runT l (i : Int) : Int)) i
  generalize tab0 (fun i => (runT l (i : Int) : Int)) i = w at *
  refine ND.yes (by omega) ?_
  refine NLoop.mk [] [0, 3, 4, 5] (fun m vs H => ∃ k, k ≤ runT l (i : Int) ∧ m = runT l (i : Int) - k ∧ H = [.row .vrow .leaf (w.map i64)] ∧ vs = [txnsA l, .own 0 0 (w.map i64).length, i64 i, i64 k]) rfl ?_ ?_
  ·exact Canon.mk [0] rfl ⟨runT l (i : Int), 0, Nat.zero_le _, rfl, rfl, rfl⟩
  rintro m vs H ⟨k, hk, rfl, rfl, rfl⟩
  have k1 := is26_walk l (i : Int) ((k : Int) + 1) (by omega)
  by_cases hkl : k < runT l (i : Int)
  ·have := hr1 (k + 1) (by omega) (by omega)
   rw [show ((k + 1 : Nat) : Int) = (k : Int) + 1 by omega] at this
   rw [this] at k1
   refine NW.w ?_
   refine NCall.call (k1) rfl rfl ?_
   refine NW.w ?_
   exact Canon.mk [0] rfl ⟨runT l (i : Int) - (k + 1), by omega, k + 1, by omega, rfl, rfl, rfl⟩
  have : k = runT l (i : Int) := by omega
  rw [this, hr2] at k1
  subst this
  refine NW.w ?_
  refine NCall.call (k1) rfl rfl ?_
  refine NFz.own ?_
  refine NApp.endA rfl (by simp; omega) ?_
  refine NW.w ?_
  exact Canon.mk [1] rfl ⟨8 - (i + 1), by omega, i + 1, by omega, rfl, by rw [hts, List.map_append]; rfl, by rw [hts, List.map_append]; rfl⟩
 have : i = 8 := by omega
 subst this
 have k2 := trim7_walk (tab0 (fun i => (runT l (i : Int) : Int)) 8) (by omega)
 generalize tab0 (fun i => (runT l (i : Int) : Int)) 8 = w at *
 refine ND.no (by omega) ?_
 refine NCall.eq (by simp only [List.length_map] <;> exact rfl) ?_
 refine NCall.frzAllN [0] (k2) (.cons (.own (by simp) rfl (by simp) (by simp) (by rw [List.drop_zero, List.take_of_length_le (by simp)])) .nil) rfl rfl rfl ?_
 exact NRet.mk [] rfl ⟨.refl _, rfl⟩
theorem pick26_walk (l : List Txn) (v : List Int) (hl : l.length ≤ 2 ^ 30) (hv : v.length ≤ 2 ^ 38) : ACalls Tryz.prog Nm.ref26_Pick [txnsA l, ints v] [] (txnsA (pickT l v)) [] := by
 refine ACalls_of tab (dr_snd tab mixed) Nm.ref26_Pick_h rfl (by kernel_rfl) (Nat.le_of_ble_eq_true rfl) rfl ?_
 refine NLoop.mk [(5, .agg 4)] [0, 1, 5, 6] (fun m vs H => ∃ i, i ≤ l.length ∧ m = l.length - i ∧ H = [.row .vrow (.agg 4) ((pickT (l.take i) v).map txnA)] ∧ vs = [txnsA l, ints v, .own 0 0 ((pickT (l.take i) v).map txnA).length, i64 i]) rfl ?_ ?_
 ·exact Canon.mk [0] rfl ⟨l.length, 0, Nat.zero_le _, rfl, rfl, rfl⟩
 rintro m vs H ⟨i, hi, rfl, rfl, rfl⟩
 by_cases hil : i < l.length
 ·have hs := filter_take (fun t : Txn => hasB v t.node t.seq) l hil
  have hfl : (pickT (l.take i) v).length ≤ i := Nat.le_trans (List.length_filter_le _ _) (by rw [List.length_take]; omega)
  have k1 := at7_walk v l[i].node (by omega)
  unfold pickT at *
  generalize (l.take i).filter (fun t : Txn => hasB v t.node t.seq) = F at *
  have hb : hasB v l[i].node l[i].seq = decide (1 ≤ l[i].seq ∧ l[i].seq ≤ vatI v l[i].node) := rfl
  by_cases h1 : 0 < l[i].seq
  ·by_cases h2 : l[i].seq ≤ vatI v l[i].node
   ·rw [hb, decide_eq_true ⟨by omega, h2⟩, if_pos rfl] at hs
    refine ND.yes (by (simp only [zLm, zLa, zLr, zLc, zLn, zLt, zLd]; omega)) ?_
    refine NP.mk (by kernel_rfl) ?_
    refine NDr.w _ ?_
    refine NDr.w _ ?_
    apply NDr.pure
    ·refine NP.mk (by omega) ?_
     refine NG.mapN (by omega) ?_
     exact ⟨rfl, rfl⟩
    refine NDr.w _ ?_
    refine NDr.w _ ?_
    apply NDr.pure
    ·refine ND.yes (by omega) ?_
     exact ⟨rfl, rfl⟩
    refine NDr.w _ ?_
    refine NDr.w _ ?_
    refine NDr.w _ ?_
    apply NDr.pure
    ·refine NP.mk (by omega) ?_
     refine NG.mapN (by omega) ?_
     exact ⟨rfl, rfl⟩
    refine NDr.w _ ?_
    refine NDr.w _ ?_
    refine NDr.w _ ?_
    refine NDr.w _ ?_
    refine NDr.w _ ?_
    apply NDr.pure
    ·refine NP.mk (by omega) ?_
     refine NG.mapN (by omega) ?_
     exact ⟨rfl, rfl⟩
    refine NDr.w _ ?_
    refine NDr.w _ ?_
    apply NDr.pure
    ·refine NCall.call (k1) rfl rfl ?_
     exact ⟨rfl, rfl⟩
    apply NDr.pure
    ·refine ND.yes (by omega) ?_
     exact ⟨rfl, rfl⟩
    refine NDr.w _ ?_
    refine NP.mk (by kernel_rfl) ?_
    refine NP.mk (by omega) ?_
    refine NG.mapN (by omega) ?_
    refine NFz.own ?_
    refine NApp.endA rfl (by simp; omega) ?_
    refine NW.w ?_
    exact Canon.mk [1] rfl ⟨l.length - (i + 1), by omega, i + 1, by omega, rfl, by rw [hs, List.map_append]; rfl, by rw [hs, List.map_append]; rfl⟩
   ·rw [hb, decide_eq_false (fun h => h2 h.2), if_neg (by simp)] at hs
    refine ND.yes (by (simp only [zLm, zLa, zLr, zLc, zLn, zLt, zLd]; omega)) ?_
    refine NP.mk (by kernel_rfl) ?_
    refine NDr.w _ ?_
    refine NDr.w _ ?_
    apply NDr.pure
    ·refine NP.mk (by omega) ?_
     refine NG.mapN (by omega) ?_
     exact ⟨rfl, rfl⟩
    refine NDr.w _ ?_
    refine NDr.w _ ?_
    apply NDr.pure
    ·refine ND.yes (by omega) ?_
     exact ⟨rfl, rfl⟩
    refine NDr.w _ ?_
    refine NDr.w _ ?_
    refine NDr.w _ ?_
    apply NDr.pure
    ·refine NP.mk (by omega) ?_
     refine NG.mapN (by omega) ?_
     exact ⟨rfl, rfl⟩
    refine NDr.w _ ?_
    refine NDr.w _ ?_
    refine NDr.w _ ?_
    refine NDr.w _ ?_
    refine NDr.w _ ?_
    apply NDr.pure
    ·refine NP.mk (by omega) ?_
     refine NG.mapN (by omega) ?_
     exact ⟨rfl, rfl⟩
    refine NDr.w _ ?_
    refine NDr.w _ ?_
    apply NDr.pure
    ·refine NCall.call (k1) rfl rfl ?_
     exact ⟨rfl, rfl⟩
    apply NDr.pure
    ·refine ND.no (by omega) ?_
     exact ⟨rfl, rfl⟩
    refine NDr.w _ ?_
    refine NP.mk (by kernel_rfl) ?_
    refine NW.w ?_
    exact Canon.mk [0] rfl ⟨l.length - (i + 1), by omega, i + 1, by omega, rfl, by rw [hs] <;> rfl, by rw [hs] <;> rfl⟩
  ·rw [hb, decide_eq_false (fun h => h1 (by omega)), if_neg (by simp)] at hs
   refine ND.yes (by (simp only [zLm, zLa, zLr, zLc, zLn, zLt, zLd]; omega)) ?_
   refine NP.mk (by kernel_rfl) ?_
   refine NDr.w _ ?_
   refine NDr.w _ ?_
   apply NDr.pure
   ·refine NP.mk (by omega) ?_
    refine NG.mapN (by omega) ?_
    exact ⟨rfl, rfl⟩
   refine NDr.w _ ?_
   refine NDr.w _ ?_
   apply NDr.pure
   ·refine ND.no (by omega) ?_
    exact ⟨rfl, rfl⟩
   refine NDr.w _ ?_
   refine NDr.w _ ?_
   refine NP.mk (by kernel_rfl) ?_
   refine NW.w ?_
   exact Canon.mk [0] rfl ⟨l.length - (i + 1), by omega, i + 1, by omega, rfl, by rw [hs] <;> rfl, by rw [hs] <;> rfl⟩
 have : i = l.length := by omega
 subst this
 rw [List.take_length]
 refine ND.no (by (simp only [zLm, zLa, zLr, zLc, zLn, zLt, zLd]; omega)) ?_
 exact NRet.mk [] rfl (NFrz.mk ((pickT l v).map txnA) (by simp) (by rw [List.drop_zero, List.take_of_length_le (by simp)]) ⟨.refl _, rfl⟩)
end Go.Bv
namespace Go.Bv
set_option linter.unusedSimpArgs false
set_option linter.unusedVariables false
set_option maxHeartbeats 4000000
open Go Go.Proofs
theorem shortT_sm {l : List Txn} (h : shortT l = true) (ho : ∀ t ∈ l, okTxn t) : l.length ≤ 24 ∧ ∀ t ∈ l, smTxn t := by
 unfold shortT at h
 rw [Bool.and_eq_true, List.all_eq_true] at h
 refine ⟨of_decide_eq_true h.1, fun t ht => ?_⟩
 have := h.2 t ht
 rw [Bool.and_eq_true] at this
 obtain ⟨h1, h2⟩ := this
 have h1 := of_decide_eq_true h1
 unfold shortEs at h2
 rw [Bool.and_eq_true, List.all_eq_true] at h2
 have h3 := of_decide_eq_true h2.1
 refine ⟨(ho t ht).2.1, by omega, by omega, fun e he => ?_⟩
 have := of_decide_eq_true (h2.2 e he)
 exact ⟨by omega, by omega, by omega, by omega⟩
theorem nexts_len : ∀ (l : List Txn) (v : List Int), (nexts v l).length ≤ max v.length 8
 | [], v => by rw [nexts_nil]; omega
 | t :: r, v => by
  rw [nexts_cons]
  have := nexts_len r (next v t)
  have := next_len v t
  omega
end Go.Bv
namespace Go.Bv
set_option linter.unusedSimpArgs false
set_option linter.unusedVariables false
set_option maxHeartbeats 4000000
set_option maxRecDepth 20000
open Go Go.Proofs
theorem rem_set : ∀ {l : List Txn} {gs : List Bool} {i : Nat} {t : Txn}, l[i]? = some t → gs[i]? = some false → (rem l gs).Perm (t :: rem l (gs.set i true))
 | [], _, _, _, h, _ => by simp at h
 | _ :: _, [], _, _, _, h => by simp at h
 | y :: l, g :: gs, 0, t, h, hg => by
  simp only [List.getElem?_cons_zero, Option.some.injEq] at h hg
  subst h hg
  unfold rem
  simp
 | y :: l, g :: gs, i + 1, t, h, hg => by
  simp only [List.getElem?_cons_succ] at h hg
  have ih := rem_set (l := l) (gs := gs) (i := i) (t := t) h hg
  unfold rem
  rw [List.set_cons_succ]
  cases g with
  | true => simpa [rem] using ih
  | false => simpa [rem] using (List.Perm.cons y ih).trans (.swap ..)
theorem closed26_walk (l : List Txn) (hl : l.length ≤ 5000) (hx : ∀ t ∈ l, smTxn t) : ACalls Tryz.prog Nm.ref26_Closed [txnsA l] [] (.bool (closedB l)) [] := by
 refine ACalls_of tab (dr_snd tab mixed) Nm.ref26_Closed_h rfl (by kernel_rfl) (Nat.le_of_ble_eq_true rfl) rfl ?_
 refine NLoop.mk [] [0, 3] (fun m vs H => ∃ i, i ≤ l.length ∧ m = l.length - i ∧ (∀ x ∈ l.take i, formed x = true) ∧ H = [] ∧ vs = [txnsA l, i64 i]) rfl ?_ ?_
 ·exact Canon.mk [] rfl ⟨l.length, 0, Nat.zero_le _, rfl, by simp, rfl, rfl⟩
 rintro m vs H ⟨i, hi, rfl, ht, rfl, rfl⟩
 by_cases hil : i < l.length
 ·have k1 := formed13_walk l[i] (hx _ (List.getElem_mem hil))
  cases hf : formed l[i] with
  | true =>
   rw [hf] at k1
   refine ND.yes (by (simp only [zLm, zLa, zLr, zLc, zLn, zLt, zLd]; omega)) ?_
   refine NP.mk (by omega) ?_
   refine NG.mapN (by omega) ?_
   refine NCall.call (k1) rfl rfl ?_
   refine NW.w ?_
   exact Canon.mk [] rfl ⟨l.length - (i + 1), by omega, i + 1, by omega, rfl, all_take hil ht hf, rfl, rfl⟩
  | false =>
   rw [hf] at k1
   have : closedB l = false := by
    unfold closedB
    rw [Bool.and_eq_false_iff]
    exact .inl (List.all_eq_false.2 ⟨l[i], List.getElem_mem hil, by rw [hf]; simp⟩)
   rw [this]
   refine ND.yes (by (simp only [zLm, zLa, zLr, zLc, zLn, zLt, zLd]; omega)) ?_
   refine NP.mk (by omega) ?_
   refine NG.mapN (by omega) ?_
   refine NCall.call (k1) rfl rfl ?_
   exact NRet.mk [] rfl ⟨.refl _, rfl⟩
 have : i = l.length := by omega
 subst this
 rw [List.take_length] at ht
 refine ND.no (by (simp only [zLm, zLa, zLr, zLc, zLn, zLt, zLd]; omega)) ?_
 refine NP.mk (by (simp; omega)) ?_
 refine NMk.own ?_
 refine NLoop.mk [] [0, 4, 5, 6, 7] (fun m vs H => ∃ (out : List Txn) (gs : List Bool) (again : Bool), gs.length = l.length ∧ chain [] out = true ∧ l.Perm (out ++ rem l gs) ∧
  (again = false → ∀ (j : Nat) (x : Txn), l[j]? = some x → gs[j]? = some true ∨ ready (nexts [] out) x = false) ∧ m = 2 * (rem l gs).length + again.toNat ∧
  H = [.row .row .leaf (gs.map AV.bool)] ∧ vs = [txnsA l, .own 0 0 l.length, i64 out.length, ints (nexts [] out), .bool again]) rfl ?_ ?_
 ·refine Canon.wk [0] [txnsA l, .own 0 0 l.length, i64 0, ints [], .bool true] rfl ⟨?_, _, [], List.replicate l.length false, true, by simp, rfl, by rw [rem_rep]; simp, by simp, rfl, by simp, rfl⟩
  exact .cons (.refl _) (.cons (by simp; exact .refl _) (.cons (.refl _) (.cons (.nils .leaf) (.cons (.refl _) .nil))))
 rintro m vs H ⟨out, gs, again, hgl, hch, hpm, hag, rfl, rfl, rfl⟩
 have hol : out.length + (rem l gs).length = l.length := by
  have := hpm.length_eq
  rw [List.length_append] at this; exact this.symm
 cases again with
 | false =>
  have hag := hag rfl
  have hr : ∀ t ∈ rem l gs, ready (nexts [] out) t = false := fun t ht => by
   have := List.find?_eq_none.1 (rem_none (p := ready (nexts [] out)) (l := l) (gs := gs) hag) t ht
   simpa using this
  rw [closed_rest ht hch hpm hr]
  by_cases hk : out.length = l.length
  ·rw [decide_eq_true hk]
   refine ND.yes (by (simp only [zLm, zLa, zLr, zLc, zLn, zLt, zLd]; omega)) ?_
   exact NRet.mk [] rfl ⟨.refl _, rfl⟩
  ·rw [decide_eq_false hk]
   refine ND.no (by (simp only [zLm, zLa, zLr, zLc, zLn, zLt, zLd]; omega)) ?_
   exact NRet.mk [] rfl ⟨.refl _, rfl⟩
 | true =>
  skip
  refine NLoop.mk [] [0, 4, 5, 6, 7, 8] (fun m vs H => ∃ (out2 : List Txn) (gs2 : List Bool) (again : Bool) (i : Nat), i ≤ l.length ∧ m = l.length - i ∧ gs2.length = l.length ∧ chain [] out2 = true ∧ l.Perm (out2 ++ rem l gs2) ∧
   (again = false → (rem l gs2).length = (rem l gs).length ∧ ∀ (j : Nat) (x : Txn), j < i → l[j]? = some x → gs2[j]? = some true ∨ ready (nexts [] out2) x = false) ∧
   (again = true → (rem l gs2).length < (rem l gs).length) ∧
   H = [.row .row .leaf (gs2.map AV.bool)] ∧ vs = [txnsA l, .own 0 0 l.length, i64 out2.length, ints (nexts [] out2), .bool again, i64 i]) rfl ?_ ?_
  ·exact Canon.mk [0] rfl ⟨_, out, gs, false, 0, Nat.zero_le _, rfl, hgl, hch, hpm, fun _ => ⟨rfl, fun j x h => by omega⟩, by simp, rfl, rfl⟩
  clear hag
  rintro m vs H ⟨out2, gs2, again, i, hi, rfl, hgl2, hch2, hpm2, hag, hlt, rfl, rfl⟩
  have hol2 : out2.length + (rem l gs2).length = l.length := by
   have := hpm2.length_eq
   rw [List.length_append] at this; exact this.symm
  by_cases hil : i < l.length
  ·have hs := hx _ (List.getElem_mem hil)
   have hw := nexts_len out2 []
   rw [List.length_nil] at hw
   have h1 := ready14_walk (nexts [] out2) l[i] (by omega) (by have := hs.2.1; omega) hs.1
   have h2 := next14_walk (nexts [] out2) l[i] (by omega)
   have hig : i < gs2.length := by omega
   have hli := List.getElem?_eq_getElem hil
   cases hg : gs2[i] with
   | true =>
    refine ND.yes (by (simp only [zLm, zLa, zLr, zLc, zLn, zLt, zLd]; omega)) ?_
    refine NP.mk (by (simp only [zLm, zLa, zLr, zLc, zLn, zLt, zLd]; omega)) ?_
    refine NG.map0N (by omega) ?_
    refine NB.yes (by assumption) ?_
    refine NW.w ?_
    exact Canon.mk [0] rfl ⟨_, by omega, out2, gs2, again, i + 1, by omega, rfl, hgl2, hch2, hpm2, fun ha => ⟨(hag ha).1, fun j x hj hx => by
     rcases Nat.lt_or_ge j i with h | h
     ·exact (hag ha).2 j x h hx
     ·rw [show j = i by omega, List.getElem?_eq_getElem hig, hg]; exact .inl rfl⟩, hlt, rfl, rfl⟩
   | false =>
    have hg' : gs2[i]? = some false := by rw [List.getElem?_eq_getElem hig, hg]
    cases hr : ready (nexts [] out2) l[i] with
    | true =>
     rw [hr] at h1
     have hp := rem_set hli hg'
     have hpl := hp.length_eq
     rw [List.length_cons] at hpl
     have hns := nexts_snoc [] out2 l[i]
     rw [← hns] at h2
     obtain ⟨w2, hw2⟩ : ∃ w2, w2 = nexts [] (out2 ++ [l[i]]) := ⟨_, rfl⟩
     rw [← hw2] at h2
     refine ND.yes (by (simp only [zLm, zLa, zLr, zLc, zLn, zLt, zLd]; omega)) ?_
     refine NP.mk (by (simp only [zLm, zLa, zLr, zLc, zLn, zLt, zLd]; omega)) ?_
     refine NG.map0N (by omega) ?_
     refine NB.no (by assumption) ?_
     refine NP.mk (by omega) ?_
     refine NG.mapN (by omega) ?_
     refine NCall.call (h1) rfl rfl ?_
     refine NP.mk (by (simp only [zLm, zLa, zLr, zLc, zLn, zLt, zLd]; omega)) ?_
     refine NG.map0N (by omega) ?_
     refine NP.mk (by omega) ?_
     refine NG.mapN (by omega) ?_
     refine NCall.call (h2) rfl rfl ?_
     refine NW.w ?_
     refine NW.w ?_
     refine Canon.mk [0] rfl ⟨_, ?_, out2 ++ [l[i]], gs2.set i true, true, i + 1, by omega, rfl, by simpa using hgl2, chain_app hch2 ((chain_cons _ _ _).2 ⟨hr, rfl⟩), ?_, by simp, fun _ => ?_, ?_, ?_⟩
     ·omega
     ·rw [List.append_assoc]
      exact hpm2.trans (List.Perm.append_left out2 hp)
     ·rcases Bool.eq_false_or_eq_true again with h | h
      ·have := hlt h; omega
      ·have := (hag h).1; omega
     ·rw [Nat.zero_add, Int.toNat_natCast, List.map_set]
     ·rw [← hw2, List.length_append] <;> rfl
    | false =>
     rw [hr] at h1
     refine ND.yes (by (simp only [zLm, zLa, zLr, zLc, zLn, zLt, zLd]; omega)) ?_
     refine NP.mk (by (simp only [zLm, zLa, zLr, zLc, zLn, zLt, zLd]; omega)) ?_
     refine NG.map0N (by omega) ?_
     refine NB.no (by assumption) ?_
     refine NP.mk (by omega) ?_
     refine NG.mapN (by omega) ?_
     refine NCall.call (h1) rfl rfl ?_
     refine NW.w ?_
     exact Canon.mk [0] rfl ⟨_, by omega, out2, gs2, again, i + 1, by omega, rfl, hgl2, hch2, hpm2, fun ha => ⟨(hag ha).1, fun j x hj hx => by
      rcases Nat.lt_or_ge j i with h | h
      ·exact (hag ha).2 j x h hx
      ·have e : j = i := by omega
       subst e
       rw [hli] at hx
       exact .inr (by rw [← Option.some.inj hx]; exact hr)⟩, hlt, rfl, rfl⟩
  ·have : i = l.length := by omega
   subst this
   refine ND.no (by (simp only [zLm, zLa, zLr, zLc, zLn, zLt, zLd]; omega)) ?_
   refine Canon.mk [0] rfl ⟨_, ?_, out2, gs2, again, hgl2, hch2, hpm2, fun ha j x hx => (hag ha).2 j x (List.getElem?_eq_some_iff.1 hx).1 hx, rfl, rfl, rfl⟩
   cases again with
   | true => have := hlt rfl; simp only [Bool.toNat_true]; omega
   | false => have := (hag rfl).1; simp only [Bool.toNat_true, Bool.toNat_false]; omega
end Go.Bv
namespace Go.Bv
set_option linter.unusedSimpArgs false
set_option linter.unusedVariables false
set_option maxHeartbeats 4000000
set_option maxRecDepth 20000
open Go Go.Proofs
end Go.Bv
namespace Go.Bv
set_option linter.unusedSimpArgs false
set_option linter.unusedVariables false
set_option maxHeartbeats 4000000
open Go Go.Proofs
end Go.Bv
namespace Go.Bv
set_option linter.unusedSimpArgs false
set_option linter.unusedVariables false
set_option maxHeartbeats 4000000
set_option maxRecDepth 20000
open Go Go.Proofs
theorem shortT_effs {l : List Txn} (h : shortT l = true) : ∀ t ∈ l, t.effs.length ≤ 20 := fun t ht => by
 unfold shortT at h
 rw [Bool.and_eq_true, List.all_eq_true] at h
 have := h.2 t ht
 rw [Bool.and_eq_true] at this
 have h2 := this.2
 unfold shortEs at h2
 rw [Bool.and_eq_true] at h2
 exact of_decide_eq_true h2.1
end Go.Bv
namespace Go.Bv
set_option linter.unusedSimpArgs false
set_option linter.unusedVariables false
set_option maxHeartbeats 4000000
set_option maxRecDepth 20000
open Go Go.Proofs
def a26 : Txn := ⟨0, 1, [], [⟨0, [97], [], 2, [120], 0, []⟩]⟩
def b26 : Txn := ⟨1, 1, [1], [⟨0, [97], [], 2, [121], 0, [⟨0, 1, 0⟩]⟩]⟩
def i26 : Item := ⟨[97], [], 2, [121], 0, ⟨1, 1, 0⟩⟩
theorem means26 : means [b26, a26] = [i26] := by
 unfold means
 rw [show madeL' [b26, a26] = [i26] by kernel_rfl]
 exact norm_self (by simp) (by simp)
theorem awake26 : ACalls Tryz.prog Nm.law26_awake [] [] (.bool true) [] := by
 refine ACalls_of tab (dr_snd tab mixed) Nm.law26_awake_h rfl (by kernel_rfl) (Nat.le_of_ble_eq_true rfl) rfl ?_
 have h1 := means_walk [b26, a26] (by simp) (by simp [smTxn, okInt, a26, b26, smEff]) (by simp [a26, b26])
 rw [means26] at h1
 have h2 := closed_walk [b26, a26] (by simp) (by simp [smTxn, okInt, a26, b26, smEff])
 rw [show closedB [b26, a26] = true by kernel_rfl] at h2
 have h3 := closed_walk [b26] (by simp) (by simp [smTxn, okInt, b26, smEff])
 rw [show closedB [b26] = false by kernel_rfl] at h3
 refine NCall.call (ACalls.args (h1) (by repeat (first | exact LeA.refl _ | exact LeA.nils _ | refine LeA.agg ?_ | refine LeA.list _ ?_ | exact LeAs.nil | refine LeAs.cons ?_ ?_))) rfl rfl ?_
 refine ND.yes (by rfl) ?_
 refine NP.mk (by omega) ?_
 refine NG.mapN (by (simp only [zLm, zLa, zLr, zLc, zLn, zLt, zLd]; omega)) ?_
 refine ND.yes (by rfl) ?_
 refine NCall.call (ACalls.args (h2) (by repeat (first | exact LeA.refl _ | exact LeA.nils _ | refine LeA.agg ?_ | refine LeA.list _ ?_ | exact LeAs.nil | refine LeAs.cons ?_ ?_))) rfl rfl ?_
 refine NCall.call (h3) rfl rfl ?_
 exact NRet.mk [] rfl ⟨.refl _, rfl⟩
theorem means_len {l : List Txn} (h : ∀ t ∈ l, t.effs.length ≤ 100) : (means l).length ≤ 100 * l.length := by
 have h1 := norm_len (madeL' l)
 have h2 := madeG_len (dropsT l) l h
 rw [show madeG (dropsT l) l = madeL' l from rfl] at h2
 unfold means
 omega
theorem heardP_len (l : List Txn) : (heardP l).length ≤ 8 := by
 unfold heardP
 have := trim_len (tab0 (fun i => (runT l (i : Int) : Int)) 8)
 rw [tab0_len] at this; exact this
theorem eq7_self (v : List Int) (h : v.length ≤ 2 ^ 40) : ACalls Tryz.prog Nm.ref07_Equal [ints v, ints v] [] (.bool true) [] := by
 have := equal7_walk v v h
 rwa [decide_eq_true rfl] at this
theorem same9_self (l : List Item) (h : l.length ≤ 2 ^ 38) : ACalls Tryz.prog Nm.ref09_Same [itemsA l, itemsA l] [] (.bool true) [] := by
 have := same9_walk l l h
 rwa [decide_eq_true rfl] at this
end Go.Bv
namespace Go.Bv
set_option linter.unusedSimpArgs false
set_option linter.unusedVariables false
set_option maxHeartbeats 4000000
set_option maxRecDepth 20000
open Go Go.Proofs
theorem sameAll_self (l : List Txn) (hl : l.length ≤ 2 ^ 38) (hx : ∀ t ∈ l, smTxn t) : ACalls Tryz.prog Nm.ref13_SameAll [txnsA l, txnsA l] [] (.bool true) [] := by
 have := sameAll_walk l l (by omega) hx
 rwa [decide_eq_true rfl] at this
theorem specAll_walk (l : List Txn) (v : List Int) (hl : l.length ≤ reachBytes) (hx : ∀ x ∈ l, okTxn x) (hv : v.length ≤ reachBytes) : ACalls Tryz.prog Nm.law26_SpecAll [txnsA l, ints v] [] (.bool true) [] := by
 refine ACalls_of tab (dr_snd tab mixed) Nm.law26_SpecAll_h rfl (by kernel_rfl) (Nat.le_of_ble_eq_true rfl) rfl ?_
 have hl' := reach_lt hl
 have hv' := reach_lt hv
 have s1 := short13_walk l (by omega) hx
 cases h1 : shortT l with
 | false =>
  rw [h1] at s1
  refine NCall.call (awake26) rfl rfl ?_
  refine NCall.call (s1) rfl rfl ?_
  exact NRet.mk [] rfl ⟨.refl _, rfl⟩
 | true =>
 rw [h1] at s1
 obtain ⟨c1, c2⟩ := shortT_sm h1 hx
 have c3 := shortT_effs h1
 have c4 : ∀ t ∈ l, t.effs.length ≤ 100 := fun t ht => by have := c3 t ht; omega
 by_cases h2 : 60 < v.length
 ·refine NCall.call (awake26) rfl rfl ?_
  refine NCall.call (s1) rfl rfl ?_
  refine ND.yes (by (simp only [zLm, zLa, zLr, zLc, zLn, zLt, zLd]; omega)) ?_
  exact NRet.mk [] rfl ⟨.refl _, rfl⟩
 have hpl : (pickT l v).length ≤ l.length := List.length_filter_le _ _
 have k1 := copy13_walk l (by omega) c2
 have k2 := means_walk l (by omega) c2 c4
 have k3 := means26_walk l (by omega) c2 c4
 have hml := means_len c4
 have k4 := same9_self (means l) (by omega)
 have k5 := closed_walk l (by omega) c2
 have k6 := closed26_walk l (by omega) c2
 have k7 := heard_walk l (by omega)
 have k8 := heard26_walk l (by omega)
 have hhl := heardP_len l
 have k9 := eq7_self (heardP l) (by omega)
 have k10 := pick_walk l v (by omega) c2 (by omega)
 have k11 := pick26_walk l v (by omega) (by omega)
 have k12 := sameAll_self (pickT l v) (by omega) (fun t ht => c2 t (List.mem_filter.1 ht).1)
 have k13 := sameAll_self l (by omega) c2
 generalize means l = M at *
 generalize heardP l = P at *
 generalize pickT l v = K at *
 cases hc : closedB l with
 | true =>
  rw [hc] at k5 k6
  refine NCall.call (awake26) rfl rfl ?_
  refine NCall.call (s1) rfl rfl ?_
  refine ND.no (by (simp only [zLm, zLa, zLr, zLc, zLn, zLt, zLd]; omega)) ?_
  refine NCall.call (k1) rfl rfl ?_
  refine NCall.call (k2) rfl rfl ?_
  refine NCall.call (k3) rfl rfl ?_
  refine NCall.call (k4) rfl rfl ?_
  refine NCall.call (k5) rfl rfl ?_
  refine NCall.call (k6) rfl rfl ?_
  refine ND.yes (by simp) ?_
  refine NCall.call (k7) rfl rfl ?_
  refine NCall.call (k8) rfl rfl ?_
  refine NCall.call (k9) rfl rfl ?_
  refine NCall.call (k10) rfl rfl ?_
  refine NCall.call (k11) rfl rfl ?_
  refine NCall.call (k12) rfl rfl ?_
  refine NCall.call (k13) rfl rfl ?_
  exact NRet.mk [] rfl ⟨.refl _, rfl⟩
 | false =>
  rw [hc] at k5 k6
  refine NCall.call (awake26) rfl rfl ?_
  refine NCall.call (s1) rfl rfl ?_
  refine ND.no (by (simp only [zLm, zLa, zLr, zLc, zLn, zLt, zLd]; omega)) ?_
  refine NCall.call (k1) rfl rfl ?_
  refine NCall.call (k2) rfl rfl ?_
  refine NCall.call (k3) rfl rfl ?_
  refine NCall.call (k4) rfl rfl ?_
  refine NCall.call (k5) rfl rfl ?_
  refine NCall.call (k6) rfl rfl ?_
  refine ND.yes (by simp) ?_
  refine NCall.call (k7) rfl rfl ?_
  refine NCall.call (k8) rfl rfl ?_
  refine NCall.call (k9) rfl rfl ?_
  refine NCall.call (k10) rfl rfl ?_
  refine NCall.call (k11) rfl rfl ?_
  refine NCall.call (k12) rfl rfl ?_
  refine NCall.call (k13) rfl rfl ?_
  exact NRet.mk [] rfl ⟨.refl _, rfl⟩
end Go.Bv
namespace Go.Bv
open Go Go.Proofs
theorem ty_Vec {n : Nat} {xs : List AV} (h : TyC Tryz.prog n 24 xs) : ∃ a : List (Int), xs = [.list (.leaf) (a.map i64)] ∧ (a.length ≤ reachBytes ∧ ∀ y ∈ a, okInt y) := by
 obtain ⟨l, rfl, hl, hx⟩ := ty_slice h Tryz.underlying24
 have hs : shOf Tryz.prog 3 = .leaf := by exact shOf_int Tryz.underlying3
 have hb : 1 ≤ Tryz.prog.bytesOf 3 := Nat.le_of_ble_eq_true (by kernel_rfl)
 rw [hs] at hx ⊢
 have : ∀ x ∈ l, ∃ a : Int, x = i64 a ∧ okInt a := by
  intro x hxl
  obtain ⟨ys, hy, rfl⟩ := hx x hxl
  obtain ⟨a, e1, g1⟩ := ty_i64 hy Tryz.underlying3
  exact ⟨a, by rw [e1]; rfl, g1⟩
 obtain ⟨a, rfl, ha⟩ := list_of' this
 exact ⟨a, rfl, Nat.le_trans (by simpa using Nat.le_mul_of_pos_right (a.map i64).length hb) hl, ha⟩
theorem ty_Dot {n : Nat} {xs : List AV} (h : TyC Tryz.prog n 64 xs) : ∃ a : Dot, xs = dotC a ∧ okDot a := by
 obtain ⟨hl, hf⟩ := ty_struct h Tryz.underlying64
 have c3 : Tryz.prog.cellsOf 3 = 1 := by kernel_rfl
 have c64 : Tryz.prog.cellsOf 64 = 3 := by kernel_rfl
 rw [c64] at hl
 have h0 := hf _ (List.mem_cons_self ..)
 dsimp only at h0
 rw [c3] at h0
 obtain ⟨a0, e0, g0⟩ := ty_i64 h0 Tryz.underlying3
 have e0 := drop_more e0 rfl
 have h1 := hf _ (List.mem_cons_of_mem _ (List.mem_cons_self ..))
 dsimp only at h1
 rw [c3] at h1
 obtain ⟨a1, e1, g1⟩ := ty_i64 h1 Tryz.underlying3
 have e1 := drop_more e1 rfl
 have h2 := hf _ (List.mem_cons_of_mem _ (List.mem_cons_of_mem _ (List.mem_cons_self ..)))
 dsimp only at h2
 rw [c3] at h2
 obtain ⟨a2, e2, g2⟩ := ty_i64 h2 Tryz.underlying3
 have e2 := drop_more e2 rfl
 rw [drop_all' hl] at e2
 rw [e2] at e1
 rw [e1] at e0
 exact ⟨⟨a0, a1, a2⟩, by rw [List.drop_zero] at e0; rw [e0]; rfl, g0, g1, g2⟩
theorem ty_LDot {n : Nat} {xs : List AV} (h : TyC Tryz.prog n 60 xs) : ∃ a : List (Dot), xs = [.list (.agg 3) (a.map dotA)] ∧ (a.length ≤ reachBytes ∧ ∀ y ∈ a, okDot y) := by
 obtain ⟨l, rfl, hl, hx⟩ := ty_slice h Tryz.underlying60
 have hs : shOf Tryz.prog 64 = .agg 3 := by rw [shOf_struct Tryz.underlying64, show Tryz.prog.cellsOf 64 = 3 by kernel_rfl]
 have hb : 1 ≤ Tryz.prog.bytesOf 64 := Nat.le_of_ble_eq_true (by kernel_rfl)
 rw [hs] at hx ⊢
 have : ∀ x ∈ l, ∃ a : Dot, x = dotA a ∧ okDot a := by
  intro x hxl
  obtain ⟨ys, hy, rfl⟩ := hx x hxl
  obtain ⟨a, e1, g1⟩ := ty_Dot hy
  exact ⟨a, by rw [e1]; rfl, g1⟩
 obtain ⟨a, rfl, ha⟩ := list_of' this
 exact ⟨a, rfl, Nat.le_trans (by simpa using Nat.le_mul_of_pos_right (a.map dotA).length hb) hl, ha⟩
theorem ty_Eff {n : Nat} {xs : List AV} (h : TyC Tryz.prog n 62 xs) : ∃ a : Eff, xs = effC a ∧ okEff a := by
 obtain ⟨hl, hf⟩ := ty_struct h Tryz.underlying62
 have c3 : Tryz.prog.cellsOf 3 = 1 := by kernel_rfl
 have c9 : Tryz.prog.cellsOf 9 = 1 := by kernel_rfl
 have c2 : Tryz.prog.cellsOf 2 = 1 := by kernel_rfl
 have c60 : Tryz.prog.cellsOf 60 = 1 := by kernel_rfl
 have c62 : Tryz.prog.cellsOf 62 = 7 := by kernel_rfl
 rw [c62] at hl
 have h0 := hf _ (List.mem_cons_self ..)
 dsimp only at h0
 rw [c3] at h0
 obtain ⟨a0, e0, g0⟩ := ty_i64 h0 Tryz.underlying3
 have e0 := drop_more e0 rfl
 have h1 := hf _ (List.mem_cons_of_mem _ (List.mem_cons_self ..))
 dsimp only at h1
 rw [c9] at h1
 obtain ⟨a1, e1, g1⟩ := ty_str h1 Tryz.underlying9
 have e1 := drop_more e1 rfl
 have h2 := hf _ (List.mem_cons_of_mem _ (List.mem_cons_of_mem _ (List.mem_cons_self ..)))
 dsimp only at h2
 rw [c9] at h2
 obtain ⟨a2, e2, g2⟩ := ty_str h2 Tryz.underlying9
 have e2 := drop_more e2 rfl
 have h3 := hf _ (List.mem_cons_of_mem _ (List.mem_cons_of_mem _ (List.mem_cons_of_mem _ (List.mem_cons_self ..))))
 dsimp only at h3
 rw [c3] at h3
 obtain ⟨a3, e3, g3⟩ := ty_i64 h3 Tryz.underlying3
 have e3 := drop_more e3 rfl
 have h4 := hf _ (List.mem_cons_of_mem _ (List.mem_cons_of_mem _ (List.mem_cons_of_mem _ (List.mem_cons_of_mem _ (List.mem_cons_self ..)))))
 dsimp only at h4
 rw [c9] at h4
 obtain ⟨a4, e4, g4⟩ := ty_str h4 Tryz.underlying9
 have e4 := drop_more e4 rfl
 have h5 := hf _ (List.mem_cons_of_mem _ (List.mem_cons_of_mem _ (List.mem_cons_of_mem _ (List.mem_cons_of_mem _ (List.mem_cons_of_mem _ (List.mem_cons_self ..))))))
 dsimp only at h5
 rw [c2] at h5
 obtain ⟨a5, e5, g5⟩ := ty_i64 h5 Tryz.underlying2
 have e5 := drop_more e5 rfl
 have h6 := hf _ (List.mem_cons_of_mem _ (List.mem_cons_of_mem _ (List.mem_cons_of_mem _ (List.mem_cons_of_mem _ (List.mem_cons_of_mem _ (List.mem_cons_of_mem _ (List.mem_cons_self ..)))))))
 dsimp only at h6
 rw [c60] at h6
 obtain ⟨a6, e6, g6⟩ := ty_LDot h6
 have e6 := drop_more e6 rfl
 rw [drop_all' hl] at e6
 rw [e6] at e5
 rw [e5] at e4
 rw [e4] at e3
 rw [e3] at e2
 rw [e2] at e1
 rw [e1] at e0
 exact ⟨⟨a0, a1, a2, a3, a4, a5, a6⟩, by rw [List.drop_zero] at e0; rw [e0]; rfl, g0, g1, g2, g3, g4, g5, g6⟩
theorem ty_LEff {n : Nat} {xs : List AV} (h : TyC Tryz.prog n 38 xs) : ∃ a : List (Eff), xs = [.list (.agg 7) (a.map effA)] ∧ (a.length ≤ reachBytes ∧ ∀ y ∈ a, okEff y) := by
 obtain ⟨l, rfl, hl, hx⟩ := ty_slice h Tryz.underlying38
 have hs : shOf Tryz.prog 62 = .agg 7 := by rw [shOf_struct Tryz.underlying62, show Tryz.prog.cellsOf 62 = 7 by kernel_rfl]
 have hb : 1 ≤ Tryz.prog.bytesOf 62 := Nat.le_of_ble_eq_true (by kernel_rfl)
 rw [hs] at hx ⊢
 have : ∀ x ∈ l, ∃ a : Eff, x = effA a ∧ okEff a := by
  intro x hxl
  obtain ⟨ys, hy, rfl⟩ := hx x hxl
  obtain ⟨a, e1, g1⟩ := ty_Eff hy
  exact ⟨a, by rw [e1]; rfl, g1⟩
 obtain ⟨a, rfl, ha⟩ := list_of' this
 exact ⟨a, rfl, Nat.le_trans (by simpa using Nat.le_mul_of_pos_right (a.map effA).length hb) hl, ha⟩
theorem ty_Txn {n : Nat} {xs : List AV} (h : TyC Tryz.prog n 40 xs) : ∃ a : Txn, xs = txnC a ∧ okTxn a := by
 obtain ⟨hl, hf⟩ := ty_struct h Tryz.underlying40
 have c3 : Tryz.prog.cellsOf 3 = 1 := by kernel_rfl
 have c24 : Tryz.prog.cellsOf 24 = 1 := by kernel_rfl
 have c38 : Tryz.prog.cellsOf 38 = 1 := by kernel_rfl
 have c40 : Tryz.prog.cellsOf 40 = 4 := by kernel_rfl
 rw [c40] at hl
 have h0 := hf _ (List.mem_cons_self ..)
 dsimp only at h0
 rw [c3] at h0
 obtain ⟨a0, e0, g0⟩ := ty_i64 h0 Tryz.underlying3
 have e0 := drop_more e0 rfl
 have h1 := hf _ (List.mem_cons_of_mem _ (List.mem_cons_self ..))
 dsimp only at h1
 rw [c3] at h1
 obtain ⟨a1, e1, g1⟩ := ty_i64 h1 Tryz.underlying3
 have e1 := drop_more e1 rfl
 have h2 := hf _ (List.mem_cons_of_mem _ (List.mem_cons_of_mem _ (List.mem_cons_self ..)))
 dsimp only at h2
 rw [c24] at h2
 obtain ⟨a2, e2, g2⟩ := ty_Vec h2
 have e2 := drop_more e2 rfl
 have h3 := hf _ (List.mem_cons_of_mem _ (List.mem_cons_of_mem _ (List.mem_cons_of_mem _ (List.mem_cons_self ..))))
 dsimp only at h3
 rw [c38] at h3
 obtain ⟨a3, e3, g3⟩ := ty_LEff h3
 have e3 := drop_more e3 rfl
 rw [drop_all' hl] at e3
 rw [e3] at e2
 rw [e2] at e1
 rw [e1] at e0
 exact ⟨⟨a0, a1, a2, a3⟩, by rw [List.drop_zero] at e0; rw [e0]; rfl, g0, g1, g2, g3⟩
theorem ty_LTxn {n : Nat} {xs : List AV} (h : TyC Tryz.prog n 22 xs) : ∃ a : List (Txn), xs = [.list (.agg 4) (a.map txnA)] ∧ (a.length ≤ reachBytes ∧ ∀ y ∈ a, okTxn y) := by
 obtain ⟨l, rfl, hl, hx⟩ := ty_slice h Tryz.underlying22
 have hs : shOf Tryz.prog 40 = .agg 4 := by rw [shOf_struct Tryz.underlying40, show Tryz.prog.cellsOf 40 = 4 by kernel_rfl]
 have hb : 1 ≤ Tryz.prog.bytesOf 40 := Nat.le_of_ble_eq_true (by kernel_rfl)
 rw [hs] at hx ⊢
 have : ∀ x ∈ l, ∃ a : Txn, x = txnA a ∧ okTxn a := by
  intro x hxl
  obtain ⟨ys, hy, rfl⟩ := hx x hxl
  obtain ⟨a, e1, g1⟩ := ty_Txn hy
  exact ⟨a, by rw [e1]; rfl, g1⟩
 obtain ⟨a, rfl, ha⟩ := list_of' this
 exact ⟨a, rfl, Nat.le_trans (by simpa using Nat.le_mul_of_pos_right (a.map txnA).length hb) hl, ha⟩
end Go.Bv
