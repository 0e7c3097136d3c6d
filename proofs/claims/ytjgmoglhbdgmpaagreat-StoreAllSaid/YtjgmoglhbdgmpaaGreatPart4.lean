/- Part of the lift: an abstract walk of the program's code, proved sound, and what it shows of this program. -/
import Derived.Test.YtjgmoglhbdgmpaaGreatPart3
namespace Go.Bv
open Go
def AV.no1 (p : Nat) : AV → Prop
 | .own id _ _ => id ≠ p
 | .ptr id _ _ => id ≠ p
 | .map id => id ≠ p
 | _ => True
def AV.noR (p : Nat) : AV → Prop
 | .fn _ caps => ∀ c ∈ caps, c.no1 p
 | a => a.no1 p
def AV.noA (p : Nat) : AV → Prop
 | .agg cs => ∀ c ∈ cs, c.noR p
 | a => a.noR p
def AV.noT (p : Nat) : AV → Prop
 | .tup vs => ∀ c ∈ vs, c.noA p
 | a => a.noA p
def AV.noId : AV → Bool
 | .undef => true
 | .tup vs => vs.isEmpty
 | a => a.pure
theorem RL.no1 {C : Ctx} {v : Value} {a : AV} {p : Nat} (h : C.H.length ≤ p) (r : RL C v a) : a.no1 p := by
 cases a <;> first | trivial | (obtain ⟨_, h2, _⟩ := r; show _ ≠ _; omega)
theorem R1.noR {C : Ctx} {v : Value} {a : AV} {p : Nat} (h : C.H.length ≤ p) (r : R1 C v a) : a.noR p := by
 cases a with
 | fn f caps =>
  obtain ⟨cv, hv, hsz, hc⟩ := r
  intro c hm
  obtain ⟨i, hi, rfl⟩ := List.mem_iff_getElem.1 hm
  exact (hc i hi).no1 h
 | agg cs => exact (show False from r).elim
 | tup cs => exact (show False from r).elim
 | own _ _ _ => exact RL.no1 (C := C) (v := v) (a := .own _ _ _) h r
 | ptr _ _ _ => exact RL.no1 (C := C) (v := v) (a := .ptr _ _ _) h r
 | map _ => exact RL.no1 (C := C) (v := v) (a := .map _) h r
 | _ => trivial
theorem RA.noA {C : Ctx} {v : Value} {a : AV} {p : Nat} (h : C.H.length ≤ p) (r : RA C v a) : a.noA p := by
 cases a with
 | agg cs =>
  obtain ⟨vs, hv, hsz, hc, _⟩ := r
  intro c hm
  obtain ⟨i, hi, rfl⟩ := List.mem_iff_getElem.1 hm
  exact (hc i hi).noR h
 | tup cs => exact (show False from r).elim
 | fn _ _ => exact R1.noR (C := C) (v := v) (a := .fn _ _) h r
 | own _ _ _ => exact R1.noR (C := C) (v := v) (a := .own _ _ _) h r
 | ptr _ _ _ => exact R1.noR (C := C) (v := v) (a := .ptr _ _ _) h r
 | map _ => exact R1.noR (C := C) (v := v) (a := .map _) h r
 | _ => trivial
theorem RT.noT {C : Ctx} {v : Value} {a : AV} {p : Nat} (h : C.H.length ≤ p) (r : RT C v a) : a.noT p := by
 cases a with
 | tup cs =>
  obtain ⟨vs, hv, hsz, hc⟩ := r
  intro c hm
  obtain ⟨i, hi, rfl⟩ := List.mem_iff_getElem.1 hm
  exact (hc i hi).noA h
 | agg _ => exact RA.noA (C := C) (v := v) (a := .agg _) h r
 | fn _ _ => exact RA.noA (C := C) (v := v) (a := .fn _ _) h r
 | own _ _ _ => exact RA.noA (C := C) (v := v) (a := .own _ _ _) h r
 | ptr _ _ _ => exact RA.noA (C := C) (v := v) (a := .ptr _ _ _) h r
 | map _ => exact RA.noA (C := C) (v := v) (a := .map _) h r
 | _ => trivial
theorem pure1_noR {a : AV} {p : Nat} (h : a.pure1 = true) : a.noR p := by cases a <;> simp_all [AV.pure1, AV.noR, AV.no1]
theorem pure_noA {a : AV} {p : Nat} (h : a.pure = true) : a.noA p := by
 cases a with
 | agg cs =>
  intro c hm
  exact pure1_noR (List.all_eq_true.1 h c hm)
 | _ => first | trivial | (simp [AV.pure, AV.pure1] at h)
theorem noId_noT {a : AV} {p : Nat} (h : a.noId = true) : a.noT p := by
 cases a with
 | undef => trivial
 | tup vs =>
  cases vs with
  | nil => intro c hc; cases hc
  | cons _ _ => simp [AV.noId] at h
 | agg cs => exact pure_noA (a := .agg cs) h
 | _ => first | trivial | (simp [AV.noId, AV.pure, AV.pure1] at h)
section
variable {ρ : Nat → Nat} {C : Ctx} {p : Nat} (hρ : ∀ id, id < C.H.length → id ≠ p → ρ id = id)
include hρ
theorem RL.rn_eq {v : Value} {a : AV} (r : RL C v a) (hn : a.no1 p) : a.rn1 ρ = a := by
 cases a <;> first | rfl | (obtain ⟨_, h2, _⟩ := r; simp only [AV.rn1, hρ _ h2 hn])
theorem R1.rn_eq {v : Value} {a : AV} (r : R1 C v a) (hn : a.noR p) : a.rnR ρ = a := by
 cases a with
 | fn f caps =>
  obtain ⟨cv, hv, hsz, hc⟩ := r
  simp only [AV.rnR, AV.fn.injEq, true_and]
  exact (List.map_congr_left fun c hm => by
   obtain ⟨i, hi, rfl⟩ := List.mem_iff_getElem.1 hm
   exact (hc i hi).rn_eq hρ (hn _ hm)).trans (List.map_id' _)
 | own _ _ _ => exact RL.rn_eq hρ (v := v) (a := .own _ _ _) r hn
 | ptr _ _ _ => exact RL.rn_eq hρ (v := v) (a := .ptr _ _ _) r hn
 | map _ => exact RL.rn_eq hρ (v := v) (a := .map _) r hn
 | _ => rfl
theorem RA.rn_eq {v : Value} {a : AV} (r : RA C v a) (hn : a.noA p) : a.rnA ρ = a := by
 cases a with
 | agg cs =>
  obtain ⟨vs, hv, hsz, hc, _⟩ := r
  simp only [AV.rnA, AV.agg.injEq]
  exact (List.map_congr_left fun c hm => by
   obtain ⟨i, hi, rfl⟩ := List.mem_iff_getElem.1 hm
   exact (hc i hi).rn_eq hρ (hn _ hm)).trans (List.map_id' _)
 | fn _ _ => exact R1.rn_eq hρ (v := v) (a := .fn _ _) r hn
 | own _ _ _ => exact R1.rn_eq hρ (v := v) (a := .own _ _ _) r hn
 | ptr _ _ _ => exact R1.rn_eq hρ (v := v) (a := .ptr _ _ _) r hn
 | map _ => exact R1.rn_eq hρ (v := v) (a := .map _) r hn
 | _ => rfl
theorem RT.rn_eq {v : Value} {a : AV} (r : RT C v a) (hn : a.noT p) : a.rnT ρ = a := by
 cases a with
 | tup cs =>
  obtain ⟨vs, hv, hsz, hc⟩ := r
  simp only [AV.rnT, AV.tup.injEq]
  exact (List.map_congr_left fun c hm => by
   obtain ⟨i, hi, rfl⟩ := List.mem_iff_getElem.1 hm
   exact (hc i hi).rn_eq hρ (hn _ hm)).trans (List.map_id' _)
 | agg _ => exact RA.rn_eq hρ (v := v) (a := .agg _) r hn
 | fn _ _ => exact RA.rn_eq hρ (v := v) (a := .fn _ _) r hn
 | own _ _ _ => exact RA.rn_eq hρ (v := v) (a := .own _ _ _) r hn
 | ptr _ _ _ => exact RA.rn_eq hρ (v := v) (a := .ptr _ _ _) r hn
 | map _ => exact RA.rn_eq hρ (v := v) (a := .map _) r hn
 | _ => rfl
end
theorem pure_rnA {ρ : Nat → Nat} {a : AV} (h : a.pure = true) : a.rnA ρ = a := by
 have one : ∀ {c : AV}, c.pure1 = true → c.rnR ρ = c := by intro c h; cases c <;> simp_all [AV.pure1, AV.rnR, AV.rn1]
 cases a with
 | agg cs =>
  simp only [AV.rnA, AV.agg.injEq]
  exact (List.map_congr_left fun c hm => one (List.all_eq_true.1 h c hm)).trans (List.map_id' _)
 | _ => first | rfl | (simp [AV.pure, AV.pure1] at h)
theorem sub_RT {C : Ctx} {S : List Nat} {H0 : List Blk} (hS : Sel C S H0) {v : Value} {a : AV} (r : RT C v (a.rnT (rho S C.H.length))) : RT (C.sub S H0) v a := by
 cases a with
 | tup cs =>
  obtain ⟨vs, hv, hsz, hc⟩ := r
  refine ⟨vs, hv, by simpa using hsz, fun i hi => sub_RA hS ?_⟩
  have := hc i (by simpa using hi)
  simpa using this
 | agg _ => exact sub_RA hS (a := .agg _) r
 | fn _ _ => exact sub_RA hS (a := .fn _ _) r
 | own _ _ _ => exact sub_RA hS (a := .own _ _ _) r
 | ptr _ _ _ => exact sub_RA hS (a := .ptr _ _ _) r
 | map _ => exact sub_RA hS (a := .map _) r
 | bool b => exact sub_RA hS (a := .bool b) r
 | int k n => exact sub_RA hS (a := .int k n) r
 | str s => exact sub_RA hS (a := .str s) r
 | nils => exact sub_RA hS (a := .nils) r
 | nilfn => exact sub_RA hS (a := .nilfn) r
 | list sh l => exact sub_RA hS (a := .list sh l) r
 | «at» sh x o => exact sub_RA hS (a := .at sh x o) r
 | undef => exact sub_RA hS (v := v) (a := .undef) r
/-- A place that was held free is taken by a new variable. -/
theorem revive {C0 C C2 : Ctx} {p : Nat} {sh : Sh} {z : AV} (hE0 : Ext C0 C) (hC : HRep C) (hp : C.H[p]? = some .dead) (h0p : C0.H.length ≤ p) (hE : Ext C C2) (hC2 : HRep C2) (hH : C2.H = C.H ++ [.row .box sh [z]]) (hz : z.pure = true)
  (hb : ∀ (id : Nat) (sh : Sh) (es : List AV), C.H[id]? = some (.row .box sh es) → ∀ e ∈ es, e.noA p) :
  ∃ C' : Ctx, C'.w = C2.w ∧ C'.H = C.H.set p (.row .box sh [z]) ∧ HRep C' ∧ Ext C0 C' ∧ (∀ (v : Value) (x : AV), RT C v x → x.noT p → RT C' v x) ∧ ∀ v : Value, RT C2 v (.ptr C.H.length 0 0) → RT C' v (.ptr p 0 0) := by
 have hpl : p < C.H.length := (List.getElem?_eq_some_iff.1 hp).1
 let S := (List.range C.H.length).set p C.H.length
 have hSl : S.length = C.H.length := by simp [S]
 have hSg : ∀ i, i < C.H.length → S[i]? = some (if i = p then C.H.length else i) := fun i hi => by
  simp only [S, List.getElem?_set, List.length_range]
  by_cases h : p = i
  ·subst h; simp [hi]
  ·rw [if_neg h, if_neg (Ne.symm h)]; simp [hi]
 have hρ : ∀ i, i < C.H.length → rho S C2.H.length i = if i = p then C.H.length else i := fun i hi => by
  unfold rho; rw [hSg i hi]
 have hρ' : ∀ id, id < C.H.length → id ≠ p → rho S C2.H.length id = id := fun id h1 h2 => by rw [hρ id h1, if_neg h2]
 have hget : ∀ i, i < C.H.length → C2.H[i]? = C.H[i]? := fun i hi => by rw [hH, List.getElem?_append_left hi]
 have hSel : Sel C2 S (C.H.set p (.row .box sh [z])) := by
  refine ⟨?_, by simp [S], fun i b hib => ?_⟩
  ·refine List.pairwise_iff_getElem.2 fun i j hi hj hij => ?_
   simp only [S, List.getElem_set, List.getElem_range]
   simp only [S, List.length_set, List.length_range] at hi hj
   split <;> split <;> omega
  ·have hi : i < C.H.length := by have := (List.getElem?_eq_some_iff.1 hib).1; simpa using this
   refine ⟨_, hSg i hi, ?_⟩
   by_cases h : i = p
   ·subst h
    rw [if_pos rfl, hH, List.getElem?_append_right (Nat.le_refl _), Nat.sub_self]
    rw [List.getElem?_set_self hi] at hib
    cases hib
    show some (Blk.row .box sh [z]) = some (Blk.row .box sh ([z].map _))
    rw [List.map_cons, List.map_nil, pure_rnA hz]
   ·rw [if_neg h, hget i hi]
    rw [List.getElem?_set_ne (Ne.symm h)] at hib
    rw [hib]
    cases b with
    | row k sh' es =>
     cases k with
     | box =>
      obtain ⟨c, T, fr, _, _, _, _, hrow⟩ := hC.row i .box sh' es hib trivial
      show _ = some (Blk.row .box sh' (es.map _))
      rw [(List.map_congr_left fun e hm => by
       obtain ⟨q, hq, rfl⟩ := List.mem_iff_getElem.1 hm
       obtain ⟨v, hv, _⟩ := hrow q hq
       exact hv.rn_eq hρ' (hb i sh' es hib _ hm)).trans (List.map_id' es)]
     | row => rfl
     | vrow => rfl
    | _ => rfl
 have hF : (C2.sub S (C.H.set p (.row .box sh [z]))).F = C.F := by
  rw [← hE.F]
  funext b
  refine propext ⟨fun h => h.elim id fun ⟨id, k, h1, h2, h3, h4⟩ => ?_, fun h => .inl h⟩
  have hid : id = p := by
   have hlt := (List.getElem?_eq_some_iff.1 h1).1
   rw [hH] at hlt
   simp only [List.length_append, List.length_cons, List.length_nil] at hlt
   refine Classical.byContradiction fun hne => h4 ?_
   by_cases hl : id < C.H.length
   ·have := hSg id hl
    rw [if_neg hne] at this
    exact List.mem_iff_getElem?.2 ⟨_, this⟩
   ·have := hSg p hpl
    rw [if_pos rfl] at this
    exact List.mem_iff_getElem?.2 ⟨p, by rw [this]; congr 1; omega⟩
  subst hid
  rw [hget _ hpl, hp] at h1
  cases h1
  exact h2.elim
 have hβ : ∀ id, id < C.H.length → id ≠ p → (C2.sub S (C.H.set p (.row .box sh [z]))).β id = C.β id := fun id h1 h2 => by
  show C2.β (rho S C2.H.length id) = _
  rw [hρ' id h1 h2, hE.beta id h1]
 refine ⟨C2.sub S (C.H.set p (.row .box sh [z])), rfl, rfl, sub_rep hC2 hSel, ?_, fun v x r hx => ?_, fun v r => ?_⟩
 ·have E2 := hE0.trans hE
  have hgl : ∀ id, id < C0.H.length → (C.H.set p (.row .box sh [z]))[id]? = C2.H[id]? := fun id hid => by
   rw [List.getElem?_set_ne (by omega), hget id (Nat.lt_of_lt_of_le hid hE0.len)]
  exact {
   F := hF.trans hE0.F
   os := E2.os
   tape := E2.tape
   output := E2.output
   size := E2.size
   len := by show C0.H.length ≤ (C.H.set p _).length; rw [List.length_set]; exact hE0.len
   beta := fun id hid => (hβ id (Nat.lt_of_lt_of_le hid hE0.len) (by omega)).trans (hE0.beta id hid)
   keep := E2.keep
   fresh := fun id k hid hk hl => by
    have hk : (C.H.set p (.row .box sh [z]))[id]? = some k := hk
    by_cases h : id = p
    ·subst h
     have e : (C2.sub S (C.H.set id (.row .box sh [z]))).β id = C2.β C.H.length := by
      show C2.β (rho S C2.H.length id) = _
      rw [hρ id hpl, if_pos rfl]
     rw [e]
     exact E2.fresh C.H.length (.row .box sh [z]) (Nat.le_trans h0p (by omega)) (by rw [hH, List.getElem?_append_right (Nat.le_refl _)]; simp) trivial
    ·rw [List.getElem?_set_ne (Ne.symm h)] at hk
     rw [hβ id (List.getElem?_eq_some_iff.1 hk).1 h]
     exact hE0.fresh id k hid hk hl
   rows := fun id k' sh' es hid he => E2.rows id k' sh' es hid (by rw [← hgl id hid]; exact he)
   maps := fun id es hid he => E2.maps id es hid (by rw [← hgl id hid]; exact he)
   ros := fun id sh' es hid he => (E2.ros id sh' es hid (by rw [← hgl id hid]; exact he)).imp (fun h => h) fun ⟨k, es0, h1, h2, h3⟩ => ⟨k, es0, h1, h2, fun hl => (h3 hl).mono fun b hb => ⟨sub_G hSel hb, rfl⟩⟩ }
 ·refine sub_RT hSel ?_
  rw [r.rn_eq hρ' hx]
  exact hE.RT r
 ·refine sub_RT hSel ?_
  show RT C2 v (.ptr (rho S C2.H.length p) 0 0)
  rw [hρ p hpl, if_pos rfl]
  exact r
def isAl (ops : List Oper) (j : Nat) : Bool := match ops[j]? with
 | some o => (match o.op with | .alloc _ => true | _ => false) && (match o.guard with | none => true | some _ => false)
 | none => false
/-- May the two come in any order that the region has? New variables may. -/
def evOk2 (ops : List Oper) (ah : List (List Nat)) (x y : Nat × EvK) : Bool :=
 match x.2, y.2 with
 | .eff _, .eff _ => bif isAl ops x.1 then isAl ops y.1 else memN (ah.getD x.1 []) y.1
 | .eff W, .rd R => !touch W R || memN (ah.getD x.1 []) y.1
 | .rd R, .eff W => !touch W R
 | _, _ => true
def drEg (ok : Nat × EvK → Nat × EvK → Bool) : List (Nat × EvK) → Bool
 | [] => true
 | x :: r => r.all (ok x) && drEg ok r
def zOk {P : Program} (Γ : Tab P) (ops : List Oper) : Bool := allLt ops.length fun j => match isAl ops j with
 | true => match ops[j]? with
  | some o => match o.op with
   | .alloc t => match tget Γ.tbl t with
    | some ti => ti.zero.pure
    | none => false
   | _ => false
  | none => false
 | false => true
def vOk (ops : List Oper) (fr : Fr) : Bool := allLt ops.length fun j => match ops[j]? with
 | some o => isAl ops j || (match o.dst with
  | none => true
  | some d => (fr.get d).noId)
 | none => true
noncomputable def drB {P : Program} (Γ : Tab P) (n : Nat) (ops : List Oper) (fr : Fr) (H : List Blk) (K : Fr → List Blk → Prop) : Prop :=
 NP ((drOk ops (ahead [] ops) && (nodupB (ops.filterMap (·.dst)) && zOk Γ ops)) = true) (drun Γ n ops H ops 0 [] fr H fun E fr' H' => NP ((drEg (evOk2 ops (ahead [] ops)) E && vOk ops fr') = true) (K fr' H'))
theorem drun_exg {P : Program} (Γ : Tab P) (n : Nat) (ops : List Oper) (H0 : List Blk) (ok : Nat × EvK → Nat × EvK → Bool) : ∀ (rest : List Oper) (i : Nat) (E : List (Nat × EvK)) (fr : Fr) (H : List Blk) (k : List (Nat × EvK) → Fr → List Blk → Prop), drun Γ n ops H0 rest i E fr H k →
  ∃ (V : Nat → AV) (e : Nat → EvK) (frs : Nat → Fr) (Hs : Nat → List Blk), frs 0 = fr ∧ Hs 0 = H ∧
   (∀ (j : Nat) (o : Oper), rest[j]? = some o → dstOk n o.dst = true ∧ frs (j + 1) = (frs j).put o.dst (V j) ∧ DFact Γ ops H0 (frs j) o (Hs j) (e j) (V j) (Hs (j + 1))) ∧
   ∃ pre, k (pre ++ E) (frs rest.length) (Hs rest.length) ∧ (drEg ok (pre ++ E) = true → ∀ j, j < rest.length → e j ≠ .no → (∀ x ∈ E, ok (i + j, e j) x = true) ∧ ∀ q, q < j → e q ≠ .no → ok (i + j, e j) (i + q, e q) = true)
 | [], i, E, fr, H, k, h => ⟨fun _ => .undef, fun _ => .no, fun _ => fr, fun _ => H, rfl, rfl, fun j o hj => by simp at hj, [], h, fun _ j hj => by simp at hj⟩
 | o :: rest, i, E, fr, H, k, h => by
  simp only [drun_cons] at h
  split at h
  ·rename_i hd
   have key : ∀ (b : EvK) (r : AV) (H' : List Blk), DFact Γ ops H0 fr o H b r H' → drun Γ n ops H0 rest (i + 1) (addEv b i E) (fr.put o.dst r) H' k →
     ∃ (V : Nat → AV) (e : Nat → EvK) (frs : Nat → Fr) (Hs : Nat → List Blk), frs 0 = fr ∧ Hs 0 = H ∧
      (∀ (j : Nat) (o' : Oper), (o :: rest)[j]? = some o' → dstOk n o'.dst = true ∧ frs (j + 1) = (frs j).put o'.dst (V j) ∧ DFact Γ ops H0 (frs j) o' (Hs j) (e j) (V j) (Hs (j + 1))) ∧
      ∃ pre, k (pre ++ E) (frs (o :: rest).length) (Hs (o :: rest).length) ∧ (drEg ok (pre ++ E) = true → ∀ j, j < (o :: rest).length → e j ≠ .no → (∀ x ∈ E, ok (i + j, e j) x = true) ∧ ∀ q, q < j → e q ≠ .no → ok (i + j, e j) (i + q, e q) = true) := by
    intro b r H' hf hr
    obtain ⟨V, e, frs, Hs, h1, h2, h3, pre, h4, h7⟩ := drun_exg Γ n ops H0 ok rest (i + 1) _ _ _ k hr
    have hadd : ∃ l, addEv b i E = l ++ E ∧ (b ≠ .no → (i, b) ∈ l) ∧ (b ≠ .no → l = [(i, b)]) := by
     cases b with
     | no => exact ⟨[], rfl, fun h => absurd rfl h, fun h => absurd rfl h⟩
     | eff W => exact ⟨[(i, .eff W)], rfl, fun _ => by simp, fun _ => rfl⟩
     | rd R => exact ⟨[(i, .rd R)], rfl, fun _ => by simp, fun _ => rfl⟩
    obtain ⟨l, hl, hin, hone⟩ := hadd
    rw [hl] at h4 h7
    refine ⟨fun | 0 => r | j + 1 => V j, fun | 0 => b | j + 1 => e j, fun | 0 => fr | j + 1 => frs j, fun | 0 => H | j + 1 => Hs j, rfl, rfl, ?_, pre ++ l, by rw [List.append_assoc]; exact h4, ?_⟩
    ·intro j q hq
     cases j with
     | zero =>
      simp at hq; subst hq
      refine ⟨hd, h1, ?_⟩
      show DFact Γ ops H0 fr o H b r (Hs 0)
      rw [h2]; exact hf
     | succ j => exact h3 j q (by simpa using hq)
    ·intro hah j hj hb
     rw [List.append_assoc] at hah
     cases j with
     | zero =>
      refine ⟨?_, fun q hq => by omega⟩
      dsimp only at hb
      rw [hone hb] at hah
      have : ∀ (pre : List (Nat × EvK)), drEg ok (pre ++ ([(i, b)] ++ E)) = true → ∀ x ∈ E, ok (i, b) x = true := by
       intro pre hE
       induction pre with
       | nil =>
        simp only [List.nil_append, List.cons_append, drEg, Bool.and_eq_true, List.all_eq_true] at hE
        exact fun x hx => hE.1 x hx
       | cons p pre ih =>
        simp only [List.cons_append, drEg, Bool.and_eq_true] at hE
        exact ih hE.2
      exact this pre hah
     | succ j =>
      obtain ⟨g1, g2⟩ := h7 hah j (by simpa using hj) hb
      rw [show i + 1 + j = i + (j + 1) by omega] at g1 g2
      refine ⟨fun x hx => g1 x (by simp [hx]), fun q hq hb' => ?_⟩
      cases q with
      | zero => exact g1 (i, b) (by simp [hin hb'])
      | succ q =>
       have := g2 q (by omega) hb'
       rwa [show i + 1 + q = i + (q + 1) by omega] at this
   rcases aWanted_det h with ⟨hw, h⟩ | ⟨hw, h⟩
   ·rcases h with ⟨r, h, hn⟩ | ⟨r, h, hn⟩ | ⟨r, H', h, hn⟩ | ⟨W, r, H', h, ha, hn⟩ | ⟨R, r, h, hn⟩
    ·exact key .no r H (.inl ⟨hw, .inl ⟨rfl, rfl, .inl h⟩⟩) (by rwa [nrm_eq] at hn)
    ·exact key .no r H (.inl ⟨hw, .inl ⟨rfl, rfl, .inr h⟩⟩) (by rwa [nrm_eq] at hn)
    ·exact key (.eff none) r H' (.inl ⟨hw, .inr (.inl ⟨rfl, (fun W hW => by cases hW), h⟩)⟩) (by rwa [nrm_eq] at hn)
    ·exact key (.eff (some W)) r H' (.inl ⟨hw, .inr (.inl ⟨rfl, (fun W' hW => by cases hW; exact ha), h⟩)⟩) (by rwa [nrm_eq] at hn)
    ·exact key (.rd R) r H (.inl ⟨hw, .inr (.inr ⟨R, rfl, rfl, h⟩)⟩) (by rwa [nrm_eq] at hn)
   ·exact key .no (.tup []) H (.inr ⟨hw, rfl, rfl, rfl⟩) h
  ·exact h.elim
section
variable {P : Program} (Γ : Tab P) {n : Nat} {ops : Array Oper}
theorem dr_snd2 (hm : P.follows .mixedOrders = true) : DrSnd P n (drB Γ n) := by
  intro rid ops C0 C1 a1 fr K Q s h hQ
  obtain ⟨hok, h⟩ := h
  simp only [Bool.and_eq_true] at hok
  obtain ⟨hok, hndB, hzB⟩ := hok
  obtain ⟨V, e, frs, Hs, rfl, hH0, hst, pre, ⟨hord, hK⟩, hpr⟩ := drun_exg Γ n ops.toList C1.H (evOk2 ops.toList (ahead [] ops.toList)) ops.toList 0 [] _ _ _ h
  rw [Bool.and_eq_true] at hord
  have hpr := hpr hord.1
  have hvB := hord.2
  refine wp_region_any hm ?_
  -- the static facts
  have hN : ops.toList.length = ops.size := by simp
  have hget : ∀ j o, ops[j]? = some o → ops.toList[j]? = some o := fun j o h => by rw [Array.getElem?_toList]; exact h
  have hah : ∀ j o, ops[j]? = some o → (∀ d ∈ deps o, d < j) ∧ (∀ x ∈ (ahead [] ops.toList).getD j [], x ∈ deps o ∨ ∃ d ∈ deps o, x ∈ (ahead [] ops.toList).getD d []) ∧
      ∀ i p, i < j → ops[i]? = some p → meets ops.toList p o = true → i ∈ (ahead [] ops.toList).getD j [] := by
    intro j o ho
    have hj : j < ops.toList.length := by rw [hN]; exact (Array.getElem?_eq_some_iff.1 ho).1
    have := allLt_spec hok j hj
    rw [hget j o ho] at this
    simp only [Bool.and_eq_true, List.all_eq_true, Bool.or_eq_true, List.any_eq_true, memN_iff] at this
    obtain ⟨⟨h1, h2⟩, h3⟩ := this
    refine ⟨fun d hd => by simpa [Nat.blt_eq] using h1 d hd, fun x hx => (h2 x hx).imp id fun ⟨d, hd, hx⟩ => ⟨d, hd, hx⟩, fun i p hi hp hmt => ?_⟩
    have := allLt_spec h3 i hi
    rw [hget i p hp] at this
    simp only [Bool.or_eq_true, Bool.not_eq_true', memN_iff] at this
    rcases this with h | h
    · rw [hmt] at h; cases h
    · exact h
  generalize ahead [] ops.toList = ah at *
  -- what is listed is closed
  have hclosed : ∀ (listed : Array Bool), (∀ j o, ops[j]? = some o → listed.getD j false = true → ∀ d ∈ deps o, listed.getD d false = true) →
      ∀ j o, ops[j]? = some o → (∀ d ∈ deps o, listed.getD d false = true) → ∀ x ∈ ah.getD j [], listed.getD x false = true := by
    intro listed hcl j
    induction j using Nat.strongRecOn with
    | _ j ih =>
      intro o ho hd x hx
      obtain ⟨h1, h2, _⟩ := hah j o ho
      rcases h2 x hx with h | ⟨d, hdd, hx⟩
      · exact hd x h
      · have hdj := h1 d hdd
        have hlt : d < ops.size := by have := (Array.getElem?_eq_some_iff.1 ho).1; omega
        exact ih d hdj ops[d] (Array.getElem?_eq_getElem hlt) (hcl d ops[d] (Array.getElem?_eq_getElem hlt) (hd d hdd)) x hx
  -- pairs of operations that have to do with owned blocks
  have hpair : ∀ i j, i < j → j < ops.toList.length → (e i).isEff = true → (e j).isEff = true → (isAl ops.toList j = true → isAl ops.toList i = true) ∧ (isAl ops.toList j = false → i ∈ ah.getD j []) := by
    intro i j hij hj hi hj'
    have hni : e i ≠ .no := fun h => by rw [h] at hi; cases hi
    have hnj : e j ≠ .no := fun h => by rw [h] at hj'; cases hj'
    have := (hpr j hj hnj).2 i hij hni
    simp only [Nat.zero_add, evOk2] at this
    cases h1 : e i with
    | eff W =>
      cases h2 : e j with
      | eff W' =>
        rw [h1, h2] at this
        cases hA : isAl ops.toList j with
        | true => rw [hA] at this; exact ⟨fun _ => by simpa using this, fun h => (by cases h)⟩
        | false => rw [hA] at this; exact ⟨fun h => (by cases h), fun _ => by simpa [memN_iff] using this⟩
      | _ => rw [h2] at hj'; cases hj'
    | _ => rw [h1] at hi; cases hi
  -- slots between two points
  have hsame : ∀ t x y, x ≤ y → y ≤ ops.size → (∀ i p, x ≤ i → i < y → ops[i]? = some p → p.dst ≠ some t) → (frs y).get t = (frs x).get t := by
    intro t x y hxy
    obtain ⟨d, rfl⟩ := Nat.exists_eq_add_of_le hxy
    clear hxy
    induction d with
    | zero => intro _ _; rfl
    | succ d ih =>
      intro hy hno
      have hxy : x ≤ x + d := Nat.le_add_right _ _
      generalize hyy : x + d = y at *
      rw [show x + (d + 1) = y + 1 by omega] at *
      have hlt : y < ops.size := by omega
      obtain ⟨_, h2, _⟩ := hst y ops[y] (hget y _ (Array.getElem?_eq_getElem hlt))
      rw [h2, Fr.get_put, if_neg (hno y _ hxy (Nat.lt_succ_self y) (Array.getElem?_eq_getElem hlt))]
      exact ih (by omega) (fun i p h1 h2 => hno i p h1 (by omega))
  have hsameH : ∀ x y, x ≤ y → y ≤ ops.size → (∀ i, x ≤ i → i < y → (e i).isEff = false) → Hs y = Hs x := by
    intro x y hxy
    obtain ⟨d, rfl⟩ := Nat.exists_eq_add_of_le hxy
    clear hxy
    induction d with
    | zero => intro _ _; rfl
    | succ d ih =>
      intro hy hno
      have hxy : x ≤ x + d := Nat.le_add_right _ _
      generalize hyy : x + d = y at *
      rw [show x + (d + 1) = y + 1 by omega] at *
      have hlt : y < ops.size := by omega
      obtain ⟨_, _, h3⟩ := hst y ops[y] (hget y _ (Array.getElem?_eq_getElem hlt))
      have he := hno y hxy (Nat.lt_succ_self y)
      have : Hs (y + 1) = Hs y := by
        rcases h3 with ⟨_, ⟨_, h, _⟩ | ⟨h, _⟩ | ⟨_, _, h, _⟩⟩ | ⟨_, _, _, h⟩
        · exact h
        · rw [he] at h; cases h
        · exact h
        · exact h
      rw [this]
      exact ih (by omega) (fun i h1 h2 => hno i h1 (by omega))
  -- new variables
  have hal : ∀ j, ∃ q : Sh × AV, isAl ops.toList j = true → ∃ o, ops[j]? = some o ∧ o.guard = none ∧ q.2.pure = true ∧ (e j).isEff = true ∧ V j = .ptr (Hs j).length 0 0 ∧ Hs (j + 1) = Hs j ++ [.row .box q.1 [q.2]] ∧
      ∀ (fr : Fr) (H : List Blk) (next : AV → List Blk → Prop), next (.ptr H.length 0 0) (H ++ [.row .box q.1 [q.2]]) → aop Γ fr o.op H next := by
    intro j
    cases hA : isAl ops.toList j with
    | false => exact ⟨(.leaf, .undef), fun h => by cases h⟩
    | true =>
      have hA' := hA
      unfold isAl at hA'
      cases ho : ops.toList[j]? with
      | none => rw [ho] at hA'; simp at hA'
      | some o =>
        rw [ho] at hA'
        simp only [Bool.and_eq_true] at hA'
        obtain ⟨ha1, ha2⟩ := hA'
        have hg : o.guard = none := by cases hg : o.guard with
          | none => rfl
          | some g => rw [hg] at ha2; simp at ha2
        cases hop : o.op <;> rw [hop] at ha1 <;> try (simp at ha1; done)
        rename_i t
        have hj : j < ops.toList.length := (List.getElem?_eq_some_iff.1 ho).1
        have hz := allLt_spec hzB j hj
        simp only [hA, ho, hop] at hz
        cases hti : tget Γ.tbl t with
        | none => rw [hti] at hz; simp at hz
        | some ti =>
          rw [hti] at hz
          obtain ⟨sh, by', kd, z⟩ := ti
          have inv : ∀ (fr : Fr) (H : List Blk) (next : AV → List Blk → Prop), aop Γ fr (.alloc t) H next → (isSh z sh && Nat.ble 1 sh.size) = true ∧ next (.ptr H.length 0 0) (H ++ [.row .box sh [z]]) := fun fr H next h => by
            simp only [aop, hti] at h
            split at h
            · rename_i hs; exact ⟨hs, h⟩
            · split at h
              · split at h
                · split at h
                  · exact absurd hz (by simp [AV.pure, AV.pure1])
                  · exact h.elim
                · exact h.elim
              · exact h.elim
          have oto : (isSh z sh && Nat.ble 1 sh.size) = true → ∀ (fr : Fr) (H : List Blk) (next : AV → List Blk → Prop), next (.ptr H.length 0 0) (H ++ [.row .box sh [z]]) → aop Γ fr (.alloc t) H next := fun hs fr H next h => by
            simp only [aop, hti, hs]; exact h
          refine ⟨(sh, z), fun _ => ⟨o, by rw [← Array.getElem?_toList]; exact ho, hg, hz, ?_⟩⟩
          obtain ⟨_, _, hf⟩ := hst j o ho
          rcases hf with ⟨_, ⟨_, _, hf | hf⟩ | ⟨hb, _, hf⟩ | ⟨R, _, _, hf⟩⟩ | ⟨hw, _⟩
          · rw [hop] at hf; have := (inv _ _ _ hf).2.2; simp at this
          · have hf := hf []; rw [hop] at hf; have := (inv _ _ _ hf).2.2; simp at this
          · rw [hop] at hf
            obtain ⟨hs, h1, h2⟩ := inv _ _ _ hf
            exact ⟨hb, h1.symm, h2.symm, fun fr H next hn => by rw [hop]; exact oto hs fr H next hn⟩
          · have hf := hf (fun _ => .dead) []; rw [hop] at hf
            have := (inv _ _ _ hf).2.2
            have := congrArg List.length this
            simp at this
          · rw [hg] at hw; exact hw.elim
  obtain ⟨sz, hal⟩ := Classical.axiomOfChoice hal
  have hal : ∀ j, isAl ops.toList j = true → ∃ o, ops[j]? = some o ∧ o.guard = none ∧ (sz j).2.pure = true ∧ (e j).isEff = true ∧ V j = .ptr (Hs j).length 0 0 ∧ Hs (j + 1) = Hs j ++ [.row .box (sz j).1 [(sz j).2]] ∧
      ∀ (fr : Fr) (H : List Blk) (next : AV → List Blk → Prop), next (.ptr H.length 0 0) (H ++ [.row .box (sz j).1 [(sz j).2]]) → aop Γ fr o.op H next := fun j h => hal j h
  have haN : ∀ j, isAl ops.toList j = true → j < ops.size := fun j h => by
    obtain ⟨o, ho, _⟩ := hal j h
    exact (Array.getElem?_eq_some_iff.1 ho).1
  generalize hisA : isAl ops.toList = isA at *
  let asU : Nat → List Nat := fun k => (List.range k).filter isA
  let zb : Nat → Blk := fun j => .row .box (sz j).1 [(sz j).2]
  have hasS : ∀ k, asU (k + 1) = asU k ++ if isA k then [k] else [] := fun k => by
    simp only [asU, List.range_succ, List.filter_append]
    cases h : isA k <;> simp [h]
  have hasE : ∀ k d, (∀ i, k ≤ i → i < k + d → isA i = false) → asU (k + d) = asU k := by
    intro k d
    induction d with
    | zero => intro _; rfl
    | succ d ihd =>
      intro h
      rw [show k + (d + 1) = (k + d) + 1 by omega, hasS, h (k + d) (by omega) (by omega), ihd fun i h1 h2 => h i h1 (by omega)]
      simp
  have hHsA : ∀ k, k ≤ ops.size → (∀ i, i < k → (e i).isEff = true → isA i = true) → Hs k = Hs 0 ++ (asU k).map zb := by
    intro k
    induction k with
    | zero => intro _ _; simp [asU]
    | succ k ihk =>
      intro hk hall
      have ih := ihk (by omega) fun i hi => hall i (by omega)
      rw [hasS]
      cases hA : isA k with
      | true =>
        obtain ⟨o, ho, _, _, _, _, h2, _⟩ := hal k hA
        rw [h2, ih]
        simp [zb]
      | false =>
        have : Hs (k + 1) = Hs k := hsameH k (k + 1) (by omega) hk fun i h1 h2 => by
          have : i = k := by omega
          subst this
          cases hb : (e i).isEff with
          | false => rfl
          | true => rw [hall i (by omega) hb] at hA; cases hA
        rw [this, ih]
        simp
  have hpos : ∀ j, isA j = true → Hs j = Hs 0 ++ (asU j).map zb := fun j hA => by
    obtain ⟨_, _, _, _, hb, _⟩ := hal j hA
    have hj := haN j hA
    exact hHsA j (by omega) fun i hi hei => (hpair i j hi (by rw [hN]; exact hj) hei hb).1 hA
  let pos : Nat → Nat := fun j => (Hs 0).length + (asU j).length
  have hVpos : ∀ j, isA j = true → V j = .ptr (pos j) 0 0 := fun j hA => by
    obtain ⟨_, _, _, _, _, hV, _⟩ := hal j hA
    rw [hV, hpos j hA]; simp [pos]
  have hlate : ∀ i j, isA j = true → (e i).isEff = true → isA i = false → i < ops.size → j < i := fun i j hA hei hi hiN => by
    obtain ⟨_, _, _, _, hb, _⟩ := hal j hA
    have hj := haN j hA
    rcases Nat.lt_trichotomy j i with h | h | h
    · exact h
    · subst h; rw [hA] at hi; cases hi
    · have := (hpair i j h (by rw [hN]; exact hj) hei hb).1 hA
      rw [this] at hi; cases hi
  have hkk : ∃ kk, kk ≤ ops.size ∧ (∀ q, isA q = true → q < kk) ∧ (∀ i, i < ops.size → (e i).isEff = true → isA i = false → kk ≤ i) ∧ asU kk = asU ops.size ∧ Hs kk = Hs 0 ++ (asU ops.size).map zb := by
    have least : ∀ m, m ≤ ops.size → (∃ i0, i0 < m ∧ ((e i0).isEff = true ∧ isA i0 = false) ∧ ∀ i, i < i0 → ¬ ((e i).isEff = true ∧ isA i = false)) ∨ ∀ i, i < m → ¬ ((e i).isEff = true ∧ isA i = false) := by
      intro m
      induction m with
      | zero => intro _; exact .inr fun i hi => by omega
      | succ m ihm =>
        intro hm
        rcases ihm (by omega) with ⟨i0, h1, h2, h3⟩ | h
        · exact .inl ⟨i0, by omega, h2, h3⟩
        · by_cases hP : (e m).isEff = true ∧ isA m = false
          · exact .inl ⟨m, by omega, hP, h⟩
          · exact .inr fun i hi => by
              rcases Nat.lt_or_ge i m with h' | h'
              · exact h i h'
              · rw [show i = m by omega]; exact hP
    have fromK : ∀ kk, kk ≤ ops.size → (∀ q, isA q = true → q < kk) → (∀ i, i < kk → ¬ ((e i).isEff = true ∧ isA i = false)) → asU kk = asU ops.size ∧ Hs kk = Hs 0 ++ (asU ops.size).map zb := fun kk hk hq hno => by
      have e1 : asU ops.size = asU kk := by
        have := hasE kk (ops.size - kk) fun i h1 h2 => by
          cases hA : isA i with
          | false => rfl
          | true => have := hq i hA; omega
        rwa [show kk + (ops.size - kk) = ops.size by omega] at this
      refine ⟨e1.symm, ?_⟩
      rw [e1]
      exact hHsA kk hk fun i hi hei => by
        cases hA : isA i with
        | true => rfl
        | false => exact absurd ⟨hei, hA⟩ (hno i hi)
    rcases least ops.size (Nat.le_refl _) with ⟨i0, h1, h2, h3⟩ | h
    · have hq : ∀ q, isA q = true → q < i0 := fun q hA => hlate i0 q hA h2.1 h2.2 h1
      obtain ⟨g1, g2⟩ := fromK i0 (by omega) hq h3
      exact ⟨i0, by omega, hq, fun i hi hei hA => Nat.le_of_not_lt fun hlt => h3 i hlt ⟨hei, hA⟩, g1, g2⟩
    · have hq : ∀ q, isA q = true → q < ops.size := haN
      obtain ⟨g1, g2⟩ := fromK ops.size (Nat.le_refl _) hq h
      exact ⟨ops.size, Nat.le_refl _, hq, fun i hi hei hA => absurd ⟨hei, hA⟩ (h i hi), g1, g2⟩
  -- what other operations leave in slots names no block
  have hVno : ∀ j o d, ops[j]? = some o → isA j = false → o.dst = some d → (V j).noId = true := by
    intro j o d ho hA hd
    have hj : j < ops.size := (Array.getElem?_eq_some_iff.1 ho).1
    have := allLt_spec hvB j (by rw [hN]; exact hj)
    simp only [hget j o ho, hisA, hA, hd, Bool.false_or] at this
    have hfin : (frs ops.toList.length).get d = V j := by
      rw [hN, hsame d (j + 1) ops.size (by omega) (Nat.le_refl _) fun i p h1 h2 hp hpd => ?_]
      · rw [(hst j o (hget j o ho)).2.1, Fr.get_put, if_pos hd]
      · have hnd := nodupB_spec _ hndB
        have key : ∀ (l : List Oper), (l.filterMap (·.dst)).Nodup → ∀ (x y : Nat) (a b : Oper) (d : Nat), x < y → l[x]? = some a → l[y]? = some b → a.dst = some d → b.dst = some d → False := by
          intro l
          induction l with
          | nil => intro _ x y a b d _ h; simp at h
          | cons c l ihl =>
            intro hn x y a b d hxy hx hy hax hby
            have hn' : (l.filterMap (·.dst)).Nodup := by
              rw [List.filterMap_cons] at hn
              split at hn
              · exact hn
              · exact (List.nodup_cons.1 hn).2
            cases y with
            | zero => omega
            | succ y =>
              cases x with
              | zero =>
                simp only [List.getElem?_cons_zero, Option.some.injEq] at hx
                subst hx
                rw [List.filterMap_cons, hax] at hn
                exact (List.nodup_cons.1 hn).1 (List.mem_filterMap.2 ⟨b, List.mem_iff_getElem?.2 ⟨y, by simpa using hy⟩, hby⟩)
              | succ x => exact ihl hn' x y a b d (by omega) (by simpa using hx) (by simpa using hy) hax hby
        exact key _ hnd j i o p d (by omega) (hget j o ho) (hget i p hp) hd hpd
    rwa [hfin] at this
  -- the owned blocks, while some new variables are not laid yet, and behind that
  let HI : Array Bool → List Blk → Prop := fun listed H =>
    ((∃ q, isA q = true ∧ listed.getD q false = false) ∧ (∀ i, i < ops.size → (e i).isEff = true → isA i = false → listed.getD i false = false) ∧ H = Hs 0 ++ (asU ops.size).map fun q => if listed.getD q false = true then zb q else .dead) ∨
    ((∀ q, isA q = true → listed.getD q false = true) ∧ ∃ k, k ≤ ops.size ∧ H = Hs k ∧ ∀ i, i < ops.size → (e i).isEff = true → (listed.getD i false = true ↔ i < k))
  -- the walk, in any order
  -- all listed: the end
  have fin : ∀ (listed : Array Bool) (C : Ctx) (a : Act), (∀ i, i < ops.size → listed.getD i false = true) → Ext C0 C → HRep C → a.tmps.size = n → a.defers = [] →
      (∀ t, ∃ k, k ≤ ops.size ∧ RT C (a.tmps.getD t undef) ((frs k).get t) ∧ (∀ (i : Nat) (p : Oper), ops[i]? = some p → p.dst = some t → (listed.getD i false = true ↔ i < k)) ∧ ∀ q, isA q = true → listed.getD q false = false → ((frs k).get t).noT (pos q)) →
      HI listed C.H → Q .normal a C.w := by
    intro listed C a hall hE hC hn hdf hT hHI
    obtain ⟨k, hk, hH, hke⟩ : ∃ k, k ≤ ops.size ∧ C.H = Hs k ∧ ∀ i, i < ops.size → (e i).isEff = true → (listed.getD i false = true ↔ i < k) := by
      rcases hHI with ⟨⟨q, hq, hl⟩, _⟩ | ⟨_, h⟩
      · rw [hall q (haN q hq)] at hl; cases hl
      · exact h
    have hHN : C.H = Hs ops.toList.length := by
      rw [hN, hH]
      refine (hsameH k ops.size hk (Nat.le_refl _) fun i h1 h2 => ?_).symm
      cases hb : (e i).isEff with
      | false => rfl
      | true => have := (hke i h2 hb).1 (hall i h2); omega
    refine hQ C a (frs ops.toList.length) ⟨hE, hC, fun t => ?_, hn, hdf⟩ (by rw [hHN]; exact hK)
    obtain ⟨k, hk, hr, hkt, hkn⟩ := hT t
    rw [hN, hsame t k ops.size hk (Nat.le_refl _) fun i p h1 h2 hp hd => ?_]
    · exact hr
    · have := (hkt i p hp hd).1 (hall i h2); omega
  -- the walk, in any order
  have main : ∀ (fuel : Nat) (listed : Array Bool) (C : Ctx) (a : Act), listed.size = ops.size → left listed ops.size ≤ fuel →
      (∀ (j : Nat) (o : Oper), ops[j]? = some o → listed.getD j false = true → ∀ d ∈ deps o, listed.getD d false = true) →
      Ext C0 C → HRep C → a.tmps.size = n → a.defers = [] →
      (∀ t, ∃ k, k ≤ ops.size ∧ RT C (a.tmps.getD t undef) ((frs k).get t) ∧ (∀ (i : Nat) (p : Oper), ops[i]? = some p → p.dst = some t → (listed.getD i false = true ↔ i < k)) ∧ ∀ q, isA q = true → listed.getD q false = false → ((frs k).get t).noT (pos q)) →
      HI listed C.H →
      wpAny P .any ops Q fuel listed a C.w := by
    intro fuel
    induction fuel with
    | zero =>
      intro listed C a hsz hl hcl hE hC hn hdf hT hHk
      have hall := left_zero ops.size (by omega : left listed ops.size = 0)
      have hall' : ∀ i, i < ops.size → listed.getD i false = true := fun i hi => by rw [← getD_tf (by omega)]; exact hall i hi
      refine ⟨?_, fin listed C a hall' hE hC hn hdf hT hHk⟩
      cases hr : Region.ready .any ops listed with
      | nil => rfl
      | cons x r =>
        have : x ∈ Region.ready .any ops listed := by rw [hr]; simp
        obtain ⟨h0, o, ho, _⟩ := mem_ready.1 this
        rw [hall x (Array.getElem?_eq_some_iff.1 ho).1] at h0; cases h0
    | succ fuel ih =>
      intro listed C a hsz hl hcl hE hC hn hdf hT hHk
      refine ⟨fun hr => fin listed C a ?_ hE hC hn hdf hT hHk, fun j hj => ?_⟩
      · -- nothing is ready: all is listed
        intro i
        induction i using Nat.strongRecOn with
        | _ i ih =>
          intro hi
          cases hb : listed.getD i false with
          | true => rfl
          | false =>
            have ho : ops[i]? = some ops[i] := Array.getElem?_eq_getElem hi
            have : i ∈ Region.ready .any ops listed := mem_ready.2 ⟨by rw [getD_tf (by omega)]; exact hb, ops[i], ho, fun ed hed hbd => by
              have hd : ed.on ∈ deps ops[i] := List.mem_filterMap.2 ⟨ed, by simpa using hed, by simp [hbd]⟩
              have := (hah i _ ho).1 _ hd
              exact ih _ this (by omega)⟩
            rw [hr] at this; cases this
      · obtain ⟨hun, o, ho, haft⟩ := mem_ready.1 hj
        have hjs : j < ops.size := (Array.getElem?_eq_some_iff.1 ho).1
        have hunf : listed.getD j false = false := by rw [← getD_tf (by omega)]; exact hun
        have hdl : ∀ d ∈ deps o, listed.getD d false = true := fun d hd => by
          obtain ⟨ed, hed, h⟩ := List.mem_filterMap.1 hd
          by_cases hb : Region.binds .any ed = true
          · rw [if_pos hb] at h; cases h
            exact haft ed (by simpa using hed) hb
          · rw [if_neg hb] at h; cases h
        have hahj := hclosed listed hcl j o ho hdl
        have hnot : ∀ i p, ops[i]? = some p → j ∈ ah.getD i [] → listed.getD i false = false := fun i p hp hm => by
          cases hb : listed.getD i false with
          | false => rfl
          | true =>
            have := hclosed listed hcl i p hp (hcl i p hp hb) j hm
            rw [hunf] at this; cases this
        obtain ⟨hdst, hfr, hf⟩ := hst j o (hget j o ho)
        obtain ⟨_, _, hmt⟩ := hah j o ho
        -- a slot that the operation looks at
        have hread : ∀ t, (t ∈ opTmps o.op ∨ t ∈ gTmps ops.toList o) → RT C (a.tmps.getD t undef) ((frs j).get t) := by
          intro t ht
          obtain ⟨k, hk, hr, hkt, hkn⟩ := hT t
          have hm1 : ∀ p : Oper, p.dst = some t → meets ops.toList p o = true := fun p hp => by
            unfold meets
            rw [hp]
            simp only [Bool.or_eq_true, memN_iff]
            exact .inl (.inl ht)
          have hm2 : ∀ p : Oper, p.dst = some t → meets ops.toList o p = true := fun p hp => by
            unfold meets
            rw [hp]
            simp only [Bool.or_eq_true, memN_iff]
            exact .inr ht
          rcases Nat.le_total k j with hkj | hkj
          · rw [hsame t k j hkj (by omega) fun i p h1 h2 hp hd => ?_]
            · exact hr
            · have := (hkt i p hp hd).1 (hahj i (hmt i p h2 hp (hm1 p hd)))
              omega
          · rw [← hsame t j k hkj hk fun i p h1 h2 hp hd => ?_]
            · exact hr
            · have hl := (hkt i p hp hd).2 h2
              rcases Nat.lt_or_ge j i with hji | hji
              · have := hnot i p hp ((hah i p hp).2.2 j o hji ho (hm2 p hd))
                rw [this] at hl; cases hl
              · have : i = j := by omega
                subst this
                rw [hunf] at hl; cases hl
        -- what comes behind it
        have hBof : isA j = false → (e j).isEff = true → (∀ q, isA q = true → listed.getD q false = true) ∧ ∃ k, k ≤ ops.size ∧ C.H = Hs k ∧ ∀ i, i < ops.size → (e i).isEff = true → (listed.getD i false = true ↔ i < k) := by
          intro hA hb
          rcases hHk with ⟨⟨q, hq, hl⟩, _⟩ | h
          · obtain ⟨_, _, _, _, hqb, _⟩ := hal q hq
            have := (hpair q j (hlate j q hq hb hA hjs) (by rw [hN]; exact hjs) hqb hb).2 hA
            rw [hahj q this] at hl; cases hl
          · exact h
        have hgt : ∀ i, i ≠ j → (listed.setIfInBounds j true).getD i false = listed.getD i false := fun i hi => getD_set_ne false (Ne.symm hi)
        have hgj : (listed.setIfInBounds j true).getD j false = true := by simp [show j < listed.size by omega]
        have step : ∀ (v : Value) (C' : Ctx), Ext C0 C' → HRep C' → (∀ (v : Value) (x : AV), RT C v x → (isA j = true → x.noT (pos j)) → RT C' v x) → RT C' v (V j) →
            (∀ d, o.dst = some d → ∀ q, isA q = true → q ≠ j → listed.getD q false = false → (V j).noT (pos q)) → HI (listed.setIfInBounds j true) C'.H →
            wpAny P .any ops Q fuel (listed.setIfInBounds j true) (a.put o.dst v) C'.w := by
          intro v C' hE' hC' hRT hv hVq hH'
          refine ih _ C' _ (by simp [hsz]) (by have := left_set hun ops.size hjs; omega) ?_ hE' hC' ?_ ?_ ?_ hH'
          · intro i p hp hi d hd
            by_cases hij : i = j
            · subst hij
              rw [ho] at hp; cases hp
              exact getD_set_true (hdl d hd)
            · rw [hgt i hij] at hi
              exact getD_set_true (hcl i p hp hi d hd)
          · cases o.dst <;> simp [Act.put, hn]
          · cases o.dst <;> simp [Act.put, hdf]
          · intro t
            by_cases htd : o.dst = some t
            · refine ⟨j + 1, by omega, ?_, fun i p hp hd => ?_, fun q hq hl => ?_⟩
              · have hlt : t < a.tmps.size := by
                  rw [htd] at hdst
                  rw [hn]; simpa [dstOk, Nat.blt_eq] using hdst
                rw [hfr, Fr.get_put, if_pos htd, htd]
                simp only [Act.put]
                simp only [Array.getD_eq_getD_getElem?, Array.getElem?_setIfInBounds_self_of_lt hlt, Option.getD_some]
                exact hv
              · by_cases hij : i = j
                · subst hij; simp [hgj]
                · rw [hgt i hij]
                  rcases Nat.lt_or_ge i j with h | h
                  · have : meets ops.toList p o = true := by
                      unfold meets
                      rw [hd, htd]
                      simp [memN_iff]
                    simp [hahj i (hmt i p h hp this)]; omega
                  · have : meets ops.toList o p = true := by
                      unfold meets
                      rw [hd, htd]
                      simp [memN_iff]
                    simp [hnot i p hp ((hah i p hp).2.2 j o (by omega) ho this)]; omega
              · have hqj : q ≠ j := fun e => by subst e; rw [hgj] at hl; cases hl
                rw [hgt q hqj] at hl
                rw [hfr, Fr.get_put, if_pos htd]
                exact hVq t htd q hq hqj hl
            · obtain ⟨k, hk, hr, hkt, hkn⟩ := hT t
              refine ⟨k, hk, ?_, fun i p hp hd => ?_, fun q hq hl => ?_⟩
              · have : (a.put o.dst v).tmps.getD t undef = a.tmps.getD t undef := by
                  cases hd : o.dst with
                  | none => rfl
                  | some d =>
                    have hne : d ≠ t := fun e => htd (by rw [hd, e])
                    simp only [Act.put, Array.getD_eq_getD_getElem?, Array.getElem?_setIfInBounds_ne hne]
                rw [this]; exact hRT _ _ hr fun hA => hkn j hA hunf
              · have : i ≠ j := fun e => by subst e; rw [ho] at hp; cases hp; exact htd hd
                rw [hgt i this]; exact hkt i p hp hd
              · refine hkn q hq ?_
                by_cases hqj : q = j
                · subst hqj; exact hunf
                · rw [hgt q hqj] at hl; exact hl
        -- an operation that leaves the blocks
        have stepN : ∀ (v : Value) (C' : Ctx), Ext C C' → HRep C' → RT C' v (V j) → C'.H = C.H → (e j).isEff = false → wpAny P .any ops Q fuel (listed.setIfInBounds j true) (a.put o.dst v) C'.w := by
          intro v C' hE' hC' hv hCH hb
          have hA : isA j = false := by
            cases h : isA j with
            | false => rfl
            | true => obtain ⟨_, _, _, _, hb', _⟩ := hal j h; rw [hb] at hb'; cases hb'
          refine step v C' (hE.trans hE') hC' (fun _ _ r _ => hE'.RT r) hv (fun d hd q _ _ _ => noId_noT (hVno j o d ho hA hd)) ?_
          rw [hCH]
          rcases hHk with ⟨⟨q, hq, hl⟩, hno, hH⟩ | ⟨hall, k, hk, hHk, hke⟩
          · have hne : ∀ q, isA q = true → q ≠ j := fun q hq e => by subst e; rw [hA] at hq; cases hq
            refine .inl ⟨⟨q, hq, by rw [hgt q (hne q hq)]; exact hl⟩, fun i hi hei hAi => ?_, ?_⟩
            · have : i ≠ j := fun e => by subst e; rw [hb] at hei; cases hei
              rw [hgt i this]; exact hno i hi hei hAi
            · rw [hH]
              congr 1
              refine List.map_congr_left fun q hq => ?_
              rw [hgt q (hne q (List.mem_filter.1 hq).2)]
          · refine .inr ⟨fun q hq => ?_, k, hk, hHk, fun i hi hei => ?_⟩
            · have : q ≠ j := fun e => by subst e; rw [hA] at hq; cases hq
              rw [hgt q this]; exact hall q hq
            · have : i ≠ j := fun e => by subst e; rw [hb] at hei; cases hei
              rw [hgt i this]; exact hke i hi hei
        -- the heap, where the operation has a place
        have hheap : (e j).isEff = true → isA j = false → C.H = Hs j := by
          intro hb hA
          obtain ⟨_, k, hk, hHk, hke⟩ := hBof hA hb
          rw [hHk]
          rcases Nat.le_total k j with hkj | hkj
          · refine (hsameH k j hkj (by omega) fun i h1 h2 => ?_).symm
            cases hei : (e i).isEff with
            | false => rfl
            | true =>
              have := (hpair i j h2 (by rw [hN]; exact hjs) hei hb).2 hA
              have := (hke i (by omega) hei).1 (hahj i this)
              omega
          · refine hsameH j k hkj hk fun i h1 h2 => ?_
            cases hei : (e i).isEff with
            | false => rfl
            | true =>
              have hl := (hke i (by omega) hei).2 h2
              rcases Nat.lt_or_ge j i with hji | hji
              · have hAi : isA i = false := by
                  cases h : isA i with
                  | false => rfl
                  | true => have := hlate j i h hb hA hjs; omega
                have := (hpair j i hji (by rw [hN]; omega) hb hei).2 hAi
                rw [hnot i ops[i] (Array.getElem?_eq_getElem (by omega)) this] at hl; cases hl
              · have : i = j := by omega
                subst this
                rw [hunf] at hl; cases hl
        -- is it wanted
        have hwant : ∀ {T E : Prop}, aWanted ops.toList (frs j) o.guard T E → (Region.wanted o (yielded ops a.tmps) = true ∧ T) ∨ (Region.wanted o (yielded ops a.tmps) = false ∧ E) := by
          intro T E hw
          have hw' : aWanted ops.toList ((gTmps ops.toList o).map fun t => (t, (frs j).get t)) o.guard T E := by
            refine aWanted_congr (fun d hd => ?_) hw
            exact pick_get d _ hd _
          refine aWanted_snd (C0 := C) (n := n) ⟨Ext.refl C hC, hC, fun t => ?_, hn, hdf⟩ hw'
          rcases pick_get' (frs j) (gTmps ops.toList o) t with ⟨h1, h2⟩ | h2
          · rw [h2]; exact hread t (.inr h1)
          · rw [h2]; trivial
        have hfrok : FrOk C a (opFr (frs j) o.op) := fun t => by
          rcases opFr_get (frs j) o.op t with ⟨h1, h2⟩ | h2
          · rw [h2]; exact hread t (.inl h1)
          · rw [h2]; trivial
        unfold wpOp
        simp only [ho]
        rcases hf with ⟨hw, hf⟩ | ⟨hw, hV, hb, hHj⟩
        · rcases hwant hw with ⟨hw, _⟩ | ⟨_, h⟩
          · rw [hw, if_pos rfl]
            left
            rcases hf with ⟨hb, hHj, hf | hf⟩ | ⟨hb, _, hf⟩ | ⟨R, hb, hHj, hf⟩
            · -- it hangs on nothing owned
              obtain ⟨r, H', ⟨rfl, rfl⟩, hy⟩ := aop_snd Γ (C := C.shut) (shut_rep hC) (a := a) (fr := lowFr (opFr (frs j) o.op)) (fun t => by rw [lowFr_get]; exact shut_RT (hfrok t)) hf
              refine hy _ _ fun v D hDH hED hD hv => ?_
              have hJ := join_RT hC hED hv
              rw [shT_eq hDH hv] at hJ
              exact stepN v (C.join D) (join_ext hC hED) (join_rep hC hED hD) hJ (by simp [Ctx.join, hDH]) (by rw [hb]; rfl)
            · -- whatever is owned
              obtain ⟨r, H', ⟨rfl, rfl⟩, hy⟩ := aop_snd Γ hC hfrok (hf C.H)
              refine hy _ _ fun v C' hCH hE' hC' hv => ?_
              exact stepN v C' hE' hC' hv hCH (by rw [hb]; rfl)
            · cases hA : isA j with
              | false =>
                obtain ⟨r, H', ⟨rfl, rfl⟩, hy⟩ := aop_snd Γ hC hfrok (by rw [hheap hb hA]; exact hf)
                refine hy _ _ fun v C' hCH hE' hC' hv => ?_
                obtain ⟨hall, _⟩ := hBof hA hb
                refine step v C' (hE.trans hE') hC' (fun _ _ r _ => hE'.RT r) hv (fun d hd q hq hqj hl => by rw [hall q hq] at hl; cases hl) (.inr ⟨fun q hq => ?_, j + 1, by omega, hCH, fun i hi hei => ?_⟩)
                · by_cases hqj : q = j
                  · subst hqj; exact hgj
                  · rw [hgt q hqj]; exact hall q hq
                · by_cases hij : i = j
                  · subst hij; simp [hgj]
                  · rw [hgt i hij]
                    rcases Nat.lt_or_ge i j with h | h
                    · have := (hpair i j h (by rw [hN]; exact hjs) hei hb).2 hA
                      simp [hahj i this]; omega
                    · have hAi : isA i = false := by
                        cases h' : isA i with
                        | false => rfl
                        | true => have := hlate j i h' hb hA hjs; omega
                      have := (hpair j i (by omega) (by rw [hN]; exact hi) hb hei).2 hAi
                      simp [hnot i ops[i] (Array.getElem?_eq_getElem hi) this]; omega
              | true =>
                rcases hHk with ⟨_, hno, hH⟩ | ⟨hall, _⟩
                rotate_left
                · rw [hall j hA] at hunf; cases hunf
                obtain ⟨o', ho', _, hzp, _, _, _, hgo⟩ := hal j hA
                rw [ho] at ho'; cases ho'
                obtain ⟨r, H', ⟨rfl, rfl⟩, hy⟩ := aop_snd Γ hC hfrok (hgo (opFr (frs j) o.op) C.H (fun a b => a = .ptr C.H.length 0 0 ∧ b = C.H ++ [.row .box (sz j).1 [(sz j).2]]) ⟨rfl, rfl⟩)
                refine hy _ _ fun v C2 hCH hE2 hC2 hv => ?_
                -- the list of new variables, around this one
                have hsplit : asU ops.size = asU j ++ j :: (List.range' (j + 1) (ops.size - (j + 1))).filter isA := by
                  simp only [asU]
                  rw [List.range_eq_range', List.range_eq_range', show ops.size = j + (ops.size - j) by omega, ← List.range'_append_1, List.filter_append, Nat.zero_add, show ops.size - j = (ops.size - (j + 1)) + 1 by omega, List.range'_succ, List.filter_cons, hA, if_pos rfl, show j + (ops.size - (j + 1) + 1) - (j + 1) = ops.size - (j + 1) by omega]
                have hCHs : C.H = Hs 0 ++ ((asU j).map (fun q => if listed.getD q false = true then zb q else .dead) ++ Blk.dead :: ((List.range' (j + 1) (ops.size - (j + 1))).filter isA).map (fun q => if listed.getD q false = true then zb q else .dead)) := by
                  rw [hH, hsplit, List.map_append, List.map_cons, hunf]; rfl
                have hpd : C.H[pos j]? = some .dead := by
                  rw [hCHs, List.getElem?_append_right (by simp [pos]), List.getElem?_append_right (by simp [pos])]
                  simp [pos]
                have h0p : C0.H.length ≤ pos j := by
                  have := s.ext.len
                  rw [← hH0] at this
                  simp only [pos]; omega
                obtain ⟨C', hw', hH', hC', hE', hR1, hR2⟩ := revive hE hC hpd h0p hE2 hC2 hCH hzp (fun id sh es hid x hx => by
                  rw [hH] at hid
                  rcases Nat.lt_or_ge id (Hs 0).length with hl | hl
                  · rw [List.getElem?_append_left hl, hH0] at hid
                    obtain ⟨c, T, fr, _, _, _, _, hrow⟩ := s.rep.row id .box sh es hid trivial
                    obtain ⟨y, hy, rfl⟩ := List.mem_iff_getElem.1 hx
                    obtain ⟨v, hv, _⟩ := hrow y hy
                    exact hv.noA (by rw [← hH0]; simp only [pos]; omega)
                  · rw [List.getElem?_append_right hl, List.getElem?_map] at hid
                    obtain ⟨q, hq, hid⟩ := Option.map_eq_some_iff.1 hid
                    have hqA : isA q = true := (List.mem_filter.1 (List.mem_iff_getElem?.2 ⟨_, hq⟩)).2
                    split at hid
                    · cases hid
                      rw [List.mem_singleton.1 hx]
                      obtain ⟨_, _, _, hzq, _⟩ := hal q hqA
                      exact pure_noA hzq
                    · cases hid)
                rw [← hw']
                refine step v C' hE' hC' (fun v x r hx => hR1 v x r (hx hA)) ?_ (fun d _ q hq hqj _ => ?_) ?_
                · rw [hVpos j hA]; exact hR2 v hv
                · rw [hVpos j hA]
                  show pos j ≠ pos q
                  have mono : ∀ x y, x < y → isA x = true → (asU x).length < (asU y).length := fun x y hxy hx => by
                    have h1 : (asU y).length = (asU (x + 1)).length + ((List.range' (x + 1) (y - (x + 1))).filter isA).length := by
                      simp only [asU]
                      rw [List.range_eq_range', List.range_eq_range', show y = (x + 1) + (y - (x + 1)) by omega, ← List.range'_append_1, List.filter_append, List.length_append, Nat.zero_add, show x + 1 + (y - (x + 1)) - (x + 1) = y - (x + 1) by omega]
                    rw [hasS, hx, if_pos rfl, List.length_append] at h1
                    simp only [List.length_cons, List.length_nil] at h1
                    omega
                  simp only [pos]
                  rcases Nat.lt_or_gt_of_ne hqj with h | h
                  · have := mono q j h hq; omega
                  · have := mono j q h hA; omega
                · have hnew : C'.H = Hs 0 ++ (asU ops.size).map fun q => if (listed.setIfInBounds j true).getD q false = true then zb q else .dead := by
                    have hlt : ∀ q ∈ asU j, q ≠ j := fun q hq => by
                      have := List.mem_range.1 (List.mem_filter.1 hq).1; omega
                    have hgt' : ∀ q ∈ (List.range' (j + 1) (ops.size - (j + 1))).filter isA, q ≠ j := fun q hq => by
                      have := (List.mem_range'_1.1 (List.mem_filter.1 hq).1).1; omega
                    rw [hH', hCHs, hsplit, List.set_append_right _ _ (by simp [pos]), List.set_append_right _ _ (by simp [pos])]
                    rw [List.map_append, List.map_cons, hgj, if_pos rfl]
                    rw [List.map_congr_left (l := asU j) (g := fun q => if (listed.setIfInBounds j true).getD q false = true then zb q else .dead) fun q hq => by rw [hgt q (hlt q hq)]]
                    rw [List.map_congr_left (l := (List.range' (j + 1) (ops.size - (j + 1))).filter isA) (g := fun q => if (listed.setIfInBounds j true).getD q false = true then zb q else .dead) fun q hq => by rw [hgt q (hgt' q hq)]]
                    simp [pos, zb]
                  have hno' : ∀ i, i < ops.size → (e i).isEff = true → isA i = false → (listed.setIfInBounds j true).getD i false = false := fun i hi hei hAi => by
                    have : i ≠ j := fun e => by subst e; rw [hA] at hAi; cases hAi
                    rw [hgt i this]; exact hno i hi hei hAi
                  by_cases hex : ∃ q, isA q = true ∧ (listed.setIfInBounds j true).getD q false = false
                  · exact .inl ⟨hex, hno', hnew⟩
                  · have hall : ∀ q, isA q = true → (listed.setIfInBounds j true).getD q false = true := fun q hq => by
                      cases hl : (listed.setIfInBounds j true).getD q false with
                      | true => rfl
                      | false => exact absurd ⟨q, hq, hl⟩ hex
                    obtain ⟨kk, hk1, hk2, hk3, hk4, hk5⟩ := hkk
                    refine .inr ⟨hall, kk, hk1, ?_, fun i hi hei => ?_⟩
                    · rw [hnew, hk5]
                      congr 1
                      exact List.map_congr_left fun q hq => by rw [if_pos (hall q (List.mem_filter.1 hq).2)]
                    · cases hAi : isA i with
                      | true => simp [hall i hAi, hk2 i hAi]
                      | false =>
                        have := hk3 i hi hei hAi
                        simp [hno' i hi hei hAi]; omega
            · -- it reads blocks that nothing before it has changed
              have hCf : ∃ f T, C.H = holes R f T 0 C1.H := by
               rcases hHk with ⟨_, _, hH⟩ | ⟨_, k, hk, hHk, hke⟩
               · obtain ⟨f, T, h⟩ := holes_eq (R := R) 0 (Hs 0) C.H (by rw [hH]; simp) (fun id hid _ => by rw [hH, List.getElem?_append_left hid])
                 exact ⟨f, T, by rw [h, hH0]⟩
               · have hag : ∀ y, y ≤ k → (Hs 0).length ≤ (Hs y).length ∧ ∀ id, id < (Hs 0).length → id ∈ R → (Hs y)[id]? = (Hs 0)[id]? := by
                  intro y
                  induction y with
                  | zero => intro _; exact ⟨Nat.le_refl _, fun _ _ _ => rfl⟩
                  | succ y ihy =>
                    intro hyk
                    obtain ⟨h1, h2⟩ := ihy (by omega)
                    obtain ⟨_, _, h3⟩ := hst y ops[y] (hget y _ (Array.getElem?_eq_getElem (by omega)))
                    have same : Hs (y + 1) = Hs y → (Hs 0).length ≤ (Hs (y + 1)).length ∧ ∀ id, id < (Hs 0).length → id ∈ R → (Hs (y + 1))[id]? = (Hs 0)[id]? := fun h => by rw [h]; exact ⟨h1, h2⟩
                    rcases h3 with ⟨_, ⟨_, h, _⟩ | ⟨hey, hW, _⟩ | ⟨_, _, h, _⟩⟩ | ⟨_, _, _, h⟩
                    · exact same h
                    · have hly := (hke y (by omega) hey).2 (by omega)
                      have hyj : y ≠ j := fun h => by subst h; rw [hb] at hey; cases hey
                      have hnj : e j ≠ .no := by rw [hb]; simp
                      have hny : e y ≠ .no := fun h => by rw [h] at hey; cases hey
                      have hnt : ∃ W, e y = .eff (some W) ∧ touch (some W) R = false := by
                        cases hy' : e y with
                        | no => exact absurd hy' hny
                        | rd _ => rw [hy'] at hey; cases hey
                        | eff Wo =>
                          have ht : touch Wo R = false := by
                            rcases Nat.lt_or_gt_of_ne hyj with hlt | hgt
                            · have := (hpr j (by rw [hN]; exact hjs) hnj).2 y hlt hny
                              simp only [evOk2, hb, hy'] at this
                              simpa using this
                            · have := (hpr y (by rw [hN]; omega) hny).2 j hgt hnj
                              simp only [evOk2, hb, hy', Nat.zero_add, Bool.or_eq_true, memN_iff] at this
                              rcases this with h | h
                              · simpa using h
                              · rw [hnot y ops[y] (Array.getElem?_eq_getElem (by omega)) h] at hly; cases hly
                          cases Wo with
                          | none => simp [touch] at ht
                          | some W => exact ⟨W, rfl, ht⟩
                      obtain ⟨W, hyW, ht⟩ := hnt
                      obtain ⟨g1, g2⟩ := agree_get (hW W hyW)
                      refine ⟨by omega, fun id hid hr => ?_⟩
                      rw [g2 id (by omega) ?_, h2 id hid hr]
                      rw [Nat.zero_add]
                      intro hm
                      simp only [touch, List.any_eq_false, memN_iff] at ht
                      exact ht id hr hm
                    · exact same h
                    · exact same h
                 obtain ⟨g1, g2⟩ := hag k (Nat.le_refl _)
                 obtain ⟨f, T, hfT⟩ := holes_eq (R := R) 0 (Hs 0) (Hs k) g1 (fun id hid hr => g2 id hid (by simpa using hr))
                 exact ⟨f, T, by rw [hHk, hfT, hH0]⟩
              obtain ⟨f, T, hCf⟩ := hCf
              obtain ⟨r, H', ⟨rfl, rfl⟩, hy⟩ := aop_snd Γ hC hfrok (by rw [hCf]; exact hf f T)
              refine hy _ _ fun v C' hCH hE' hC' hv => ?_
              exact stepN v C' hE' hC' hv (by rw [hCH, hCf]) (by rw [hb]; rfl)
          · exact h.elim
        · rcases hwant hw with ⟨_, h⟩ | ⟨hw, _⟩
          · exact h.elim
          · rw [hw]
            simp only [Bool.false_eq_true, if_false]
            exact stepN undef C (Ext.refl C hC) hC (by rw [hV]; exact ⟨#[], rfl, rfl, fun i h => by simp at h⟩) rfl (by rw [hb]; rfl)
  obtain ⟨hE1, hC1⟩ := grown_ext s.rep (w' := { C1.w with drawn := C1.w.drawn + 1 }) rfl rfl rfl (Nat.le_refl _) (fun _ _ => rfl)
  have dead_ext : ∀ (C : Ctx) (M : Nat), HRep C → Ext C { C with H := C.H ++ List.replicate M .dead } ∧ HRep { C with H := C.H ++ List.replicate M .dead } := by
    intro C M hC
    have hg : ∀ (id : Nat) (b : Blk), (C.H ++ List.replicate M .dead)[id]? = some b → b ≠ .dead → C.H[id]? = some b := fun id b h hb => by
      rcases Nat.lt_or_ge id C.H.length with hl | hl
      · rwa [List.getElem?_append_left hl] at h
      · rw [List.getElem?_append_right hl, List.getElem?_replicate] at h
        split at h
        · cases h; exact absurd rfl hb
        · cases h
    have hlv : ∀ b : Blk, b.live → b ≠ .dead := fun b h e => by subst e; exact h
    have hE : Ext C { C with H := C.H ++ List.replicate M .dead } := {
      F := rfl, os := rfl, tape := rfl, output := rfl, size := Nat.le_refl _
      len := by show C.H.length ≤ (C.H ++ _).length; rw [List.length_append]; omega
      beta := fun _ _ => rfl
      keep := fun _ _ _ => rfl
      fresh := fun id k hid hk hl => by
        have := (List.getElem?_eq_some_iff.1 (hg id k hk (hlv k hl))).1
        omega
      rows := fun id k sh es _ he => by
        have he' := hg id _ he (by simp)
        refine ⟨es, he', rfl, fun hl => ?_⟩
        obtain ⟨c, T, fr, hc, _⟩ := hC.row id k sh es he' hl
        exact ⟨c, T, fr, c, T, fr, hc, hc, rfl⟩
      maps := fun id es _ he => ⟨es, hg id _ he (by simp)⟩
      ros := fun id sh es _ he => .inl (hg id _ he (by simp)) }
    refine ⟨hE, ⟨fun i j k m hk hm hl1 hl2 => hC.inj i j k m (hg i k hk (hlv k hl1)) (hg j m hm (hlv m hl2)) hl1 hl2, fun i k hk hl => hC.notF i k (hg i k hk (hlv k hl)) hl, hC.Flt, fun id k sh es he => hC.sz id k sh es (hg id _ he (by simp)), fun id k sh es he hl => ?_, fun id es he => ?_⟩⟩
    · obtain ⟨c, T, fr, hc, h1, h2, h3, h4⟩ := hC.row id k sh es (hg id _ he (by simp)) hl
      refine ⟨c, T, fr, hc, h1, h2, h3, fun i hi => ?_⟩
      obtain ⟨v, g1, g2, g3, g4⟩ := h4 i hi
      exact ⟨v, hE.RA g1, fun hk => hE.RP (g2 hk), g3, g4⟩
    · obtain ⟨me, cl, hm, h1, h2⟩ := hC.map id es (hg id _ he (by simp))
      refine ⟨me, cl, hm, h1, fun i hi => ?_⟩
      obtain ⟨m, g1, g2, g3⟩ := h2 i hi
      exact ⟨m, g1, hE.RP g2, hE.RP g3⟩
  obtain ⟨hE2, hC2⟩ := dead_ext { C1 with w := { C1.w with drawn := C1.w.drawn + 1 } } (asU ops.size).length hC1
  refine main ops.size _ { C1 with w := { C1.w with drawn := C1.w.drawn + 1 }, H := C1.H ++ List.replicate (asU ops.size).length .dead } a1 (by simp) ?_ ?_ ((s.ext.trans hE1).trans hE2) hC2 s.size s.defers ?_ ?_
  · have : ∀ (l : Array Bool) k, left l k ≤ k := by
      intro l k
      induction k with
      | zero => exact Nat.le_refl _
      | succ k ih => simp only [left]; split <;> omega
    exact this _ _
  · intro j o _ hj
    simp [Array.getElem?_replicate] at hj
    split at hj <;> simp at hj
  · intro t
    refine ⟨0, Nat.zero_le _, hE2.RT (hE1.RT (s.fr t)), fun i p hp hd => ?_, fun q hq _ => (s.fr t).noT (by rw [← hH0]; simp only [pos]; omega)⟩
    simp [Array.getElem?_replicate]
    split <;> simp
  · have hno : ∀ i, (Array.replicate ops.size false).getD i false = false := fun i => by
      simp [Array.getElem?_replicate]
      split <;> simp
    have hHd : (C1.H ++ List.replicate (asU ops.size).length .dead) = Hs 0 ++ (asU ops.size).map fun q => if (Array.replicate ops.size false).getD q false = true then zb q else .dead := by
      rw [hH0]
      congr 1
      have : ∀ l : List Nat, List.replicate l.length Blk.dead = l.map fun q => if (Array.replicate ops.size false).getD q false = true then zb q else .dead := by
        intro l
        induction l with
        | nil => rfl
        | cons x r ih => rw [List.map_cons, ← ih, hno x]; rfl
      exact this _
    by_cases hex : ∃ q, isA q = true
    · obtain ⟨q, hq⟩ := hex
      exact .inl ⟨⟨q, hq, hno q⟩, fun i _ _ _ => hno i, hHd⟩
    · refine .inr ⟨fun q hq => absurd ⟨q, hq⟩ hex, 0, Nat.zero_le _, ?_, fun i hi _ => ?_⟩
      · have : asU ops.size = [] := List.filter_eq_nil_iff.2 fun q _ hq => hex ⟨q, hq⟩
        show C1.H ++ List.replicate (asU ops.size).length .dead = Hs 0
        rw [this, hH0]; simp
      · rw [hno i]; simp
end
end Go.Bv
namespace Go.Bv
open Go
section
variable {ρ ρ' : Nat → Nat} {C : Ctx} (hρ : ∀ id, id < C.H.length → ρ id = ρ' id)
include hρ
theorem RL.rn_congr {v : Value} {a : AV} (r : RL C v a) : a.rn1 ρ = a.rn1 ρ' := by
 cases a <;> first | rfl | (obtain ⟨_, h2, _⟩ := r; simp only [AV.rn1, hρ _ h2])
theorem R1.rn_congr {v : Value} {a : AV} (r : R1 C v a) : a.rnR ρ = a.rnR ρ' := by
 cases a with
 | fn f caps =>
  obtain ⟨cv, hv, hsz, hc⟩ := r
  simp only [AV.rnR, AV.fn.injEq, true_and]
  exact List.map_congr_left fun c hm => by
   obtain ⟨i, hi, rfl⟩ := List.mem_iff_getElem.1 hm
   exact (hc i hi).rn_congr hρ
 | own _ _ _ => exact RL.rn_congr hρ (v := v) (a := .own _ _ _) r
 | ptr _ _ _ => exact RL.rn_congr hρ (v := v) (a := .ptr _ _ _) r
 | map _ => exact RL.rn_congr hρ (v := v) (a := .map _) r
 | _ => rfl
theorem RA.rn_congr {v : Value} {a : AV} (r : RA C v a) : a.rnA ρ = a.rnA ρ' := by
 cases a with
 | agg cs =>
  obtain ⟨vs, hv, hsz, hc, _⟩ := r
  simp only [AV.rnA, AV.agg.injEq]
  exact List.map_congr_left fun c hm => by
   obtain ⟨i, hi, rfl⟩ := List.mem_iff_getElem.1 hm
   exact (hc i hi).rn_congr hρ
 | fn _ _ => exact R1.rn_congr hρ (v := v) (a := .fn _ _) r
 | own _ _ _ => exact R1.rn_congr hρ (v := v) (a := .own _ _ _) r
 | ptr _ _ _ => exact R1.rn_congr hρ (v := v) (a := .ptr _ _ _) r
 | map _ => exact R1.rn_congr hρ (v := v) (a := .map _) r
 | _ => rfl
theorem RT.rn_congr {v : Value} {a : AV} (r : RT C v a) : a.rnT ρ = a.rnT ρ' := by
 cases a with
 | tup cs =>
  obtain ⟨vs, hv, hsz, hc⟩ := r
  simp only [AV.rnT, AV.tup.injEq]
  exact List.map_congr_left fun c hm => by
   obtain ⟨i, hi, rfl⟩ := List.mem_iff_getElem.1 hm
   exact (hc i hi).rn_congr hρ
 | agg _ => exact RA.rn_congr hρ (v := v) (a := .agg _) r
 | fn _ _ => exact RA.rn_congr hρ (v := v) (a := .fn _ _) r
 | own _ _ _ => exact RA.rn_congr hρ (v := v) (a := .own _ _ _) r
 | ptr _ _ _ => exact RA.rn_congr hρ (v := v) (a := .ptr _ _ _) r
 | map _ => exact RA.rn_congr hρ (v := v) (a := .map _) r
 | _ => rfl
theorem blk_rn_congr (hC : HRep C) {i : Nat} {b : Blk} (h : C.H[i]? = some b) : b.rn ρ = b.rn ρ' := by
 cases b with
 | row k sh es =>
  cases k with
  | box =>
   obtain ⟨c, T, fr, _, _, _, _, hrow⟩ := hC.row i .box sh es h trivial
   show Blk.row .box sh (es.map _) = Blk.row .box sh (es.map _)
   rw [List.map_congr_left fun e hm => by
    obtain ⟨q, hq, rfl⟩ := List.mem_iff_getElem.1 hm
    obtain ⟨v, hv, _⟩ := hrow q hq
    exact hv.rn_congr hρ]
  | row => rfl
  | vrow => rfl
 | _ => rfl
end
theorem blk_rn_self {ρ : Nat → Nat} {C : Ctx} (hρ : ∀ id, id < C.H.length → ρ id = id) (hC : HRep C) {i : Nat} {b : Blk} (h : C.H[i]? = some b) : b.rn ρ = b := by
 cases b with
 | row k sh es =>
  cases k with
  | box =>
   obtain ⟨c, T, fr, _, _, _, _, hrow⟩ := hC.row i .box sh es h trivial
   show Blk.row .box sh (es.map _) = Blk.row .box sh es
   rw [(List.map_congr_left fun e hm => by
    obtain ⟨q, hq, rfl⟩ := List.mem_iff_getElem.1 hm
    obtain ⟨v, hv, _⟩ := hrow q hq
    exact hv.rn_eq (p := C.H.length) (fun id h1 _ => hρ id h1) (hv.noA (Nat.le_refl _))).trans (List.map_id' es)]
  | row => rfl
  | vrow => rfl
 | _ => rfl
/-- The same blocks in another order. -/
theorem perm_ext {C B : Ctx} {S : List Nat} {H2 : List Blk} (hE : Ext C B) (hB : HRep B) (hS : Sel B S H2) (hid : ∀ i, i < C.H.length → S[i]? = some i) (hall : ∀ id, id < B.H.length → id ∈ S) : Ext C (B.sub S H2) := by
 have hρ : ∀ id, id < C.H.length → rho S B.H.length id = id := fun id h => by unfold rho; rw [hid id h]
 have hat : ∀ i b, H2[i]? = some b → ∃ h : i < S.length, B.H[S[i]]? = some (b.rn (rho S B.H.length)) ∧ rho S B.H.length i = S[i] := fun i b h => by
  have hi : i < S.length := by rw [← hS.len]; exact (List.getElem?_eq_some_iff.1 h).1
  obtain ⟨b', h1, h2, h3⟩ := hS.at hi
  rw [h] at h1; cases h1
  exact ⟨hi, h2, h3⟩
 have hlo : ∀ i b, i < C.H.length → H2[i]? = some b → B.H[i]? = some (b.rn (rho S B.H.length)) := fun i b hi h => by
  obtain ⟨hl, h2, _⟩ := hat i b h
  have := hid i hi
  rw [List.getElem?_eq_getElem hl] at this
  cases this' : S[i] with
  | _ => rw [Option.some.inj this] at h2; exact h2
 exact {
  F := by
   rw [← hE.F]
   funext b
   refine propext ⟨fun h => h.elim id fun ⟨id, k, h1, h2, h3, h4⟩ => absurd (hall id (List.getElem?_eq_some_iff.1 h1).1) h4, fun h => .inl h⟩
  os := hE.os
  tape := hE.tape
  output := hE.output
  size := hE.size
  len := by
   show C.H.length ≤ H2.length
   rw [hS.len]
   rcases Nat.eq_zero_or_pos C.H.length with h | h
   ·omega
   ·have := (List.getElem?_eq_some_iff.1 (hid (C.H.length - 1) (by omega))).1
    omega
  beta := fun id h => by
   show B.β (rho S B.H.length id) = _
   rw [hρ id h]; exact hE.beta id h
  keep := hE.keep
  fresh := fun i k hi hk hl => by
   have hk : H2[i]? = some k := hk
   obtain ⟨hlt, h2, h3⟩ := hat i k hk
   show _ ≤ B.β (rho S B.H.length i) ∨ C.owned (B.β (rho S B.H.length i))
   rw [h3]
   refine hE.fresh S[i] _ ?_ h2 (Blk.rn_live.2 hl)
   refine Nat.le_of_not_lt fun hlt2 => ?_
   have h4 := hid S[i] hlt2
   have h5 := (List.getElem?_eq_some_iff.1 h4)
   obtain ⟨h6, h7⟩ := h5
   have hp := List.pairwise_iff_getElem.1 hS.nd
   rcases Nat.lt_trichotomy S[i] i with h | h | h
   ·exact hp S[i] i h6 hlt h h7
   ·omega
   ·omega
  rows := fun i k sh es hi hk => by
   have hk : H2[i]? = some (.row k sh es) := hk
   have h1 := hlo i _ hi hk
   obtain ⟨es', e1, e2, _⟩ := Blk.rn_row' (ρ := rho S B.H.length) (k := k) (sh := sh) (es := es)
   rw [e1] at h1
   obtain ⟨es0, g1, g2, g3⟩ := hE.rows i k sh es' hi h1
   exact ⟨es0, g1, by omega, fun hl => g3 (Blk.live_row e2.symm hl)⟩
  maps := fun i es hi hk => by
   have hk : H2[i]? = some (.map es) := hk
   exact hE.maps i es hi (hlo i _ hi hk)
  ros := fun i sh es hi hk => by
   have hk : H2[i]? = some (.ro sh es) := hk
   exact (hE.ros i sh es hi (hlo i _ hi hk)).imp (fun h => h) fun ⟨k, es0, h1, h2, h3⟩ => ⟨k, es0, h1, h2, fun hl => (h3 hl).mono fun b hb => ⟨sub_G hS hb, rfl⟩⟩ }
/-- A new variable may be let be for a while, and be found behind whatever came since. -/
theorem late {C C1 : Ctx} {sh : Sh} {z : AV} {v0 : Value} (hC : HRep C) (hE : Ext C C1) (hC1 : HRep C1) (hH : C1.H = C.H ++ [.row .box sh [z]]) (hz : z.pure = true) (hv : RT C1 v0 (.ptr C.H.length 0 0)) :
  ∃ D : Ctx, D.w = C1.w ∧ D.H = C.H ∧ HRep D ∧ (∀ (v : Value) (x : AV), RT C v x → RT D v x) ∧ ∀ D2 : Ctx, Ext D D2 → HRep D2 →
   ∃ C3 : Ctx, C3.w = D2.w ∧ C3.H = D2.H ++ [.row .box sh [z]] ∧ HRep C3 ∧ Ext C C3 ∧ (∀ (v : Value) (x : AV), RT D2 v x → RT C3 v x) ∧ RT C3 v0 (.ptr D2.H.length 0 0) := by
 have hl1 : C1.H.length = C.H.length + 1 := by rw [hH]; simp
 have hρ : ∀ id, id < C.H.length → rho (List.range C.H.length) C1.H.length id = id := fun id h => by
  unfold rho; rw [List.getElem?_range h]
 have hSel : Sel C1 (List.range C.H.length) C.H := ⟨List.nodup_range, by simp, fun i b hib => by
  have hi := (List.getElem?_eq_some_iff.1 hib).1
  refine ⟨i, List.getElem?_range hi, ?_⟩
  rw [hH, List.getElem?_append_left hi, hib, blk_rn_self (by rw [← hH]; exact hρ) hC hib]⟩
 refine ⟨C1.sub (List.range C.H.length) C.H, rfl, rfl, sub_rep hC1 hSel, fun v x r => sub_RT hSel ?_, fun D2 hE2 hD2 => ?_⟩
 ·rw [r.rn_eq (p := C.H.length) (fun id h _ => hρ id h) (r.noT (Nat.le_refl _))]
  exact hE.RT r
 have hB := back_rep hC1 hSel hE2 hD2
 have hBE := back_ext hC1 hSel hE2
 have hle : C.H.length ≤ D2.H.length := hE2.len
 have hbl : (C1.back (List.range C.H.length) D2).H.length = D2.H.length + 1 := by
  simp only [Ctx.back, List.length_append, setAll_len, List.length_map, List.length_drop, List.length_range]
  omega
 have hbox : (C1.back (List.range C.H.length) D2).H[C.H.length]? = some (.row .box sh [z]) := by
  show (_ ++ _)[C.H.length]? = _
  rw [List.getElem?_append_left (by rw [setAll_len]; omega), setAll_out _ _ _ _ (by simp), hH]
  simp
 obtain ⟨ρ, hρe⟩ : ∃ ρ, ρ = rho (List.range C.H.length) C1.H.length := ⟨_, rfl⟩
 have hρv : ∀ i, ρ i = if i < C.H.length then i else i + 1 := fun i => by
  rw [hρe]
  by_cases h : i < C.H.length
  ·rw [hρ i h, if_pos h]
  ·rw [if_neg h]
   unfold rho
   rw [List.getElem?_eq_none (by simpa using h)]
   simp only [List.length_range]
   omega
 obtain ⟨S2, hS2⟩ : ∃ S2, S2 = (List.range D2.H.length).map ρ ++ [C.H.length] := ⟨_, rfl⟩
 have hS2i : ∀ i, i < D2.H.length → S2[i]? = some (ρ i) := fun i hi => by
  rw [hS2, List.getElem?_append_left (by simpa using hi), List.getElem?_map, List.getElem?_range hi]; rfl
 have hS2m : S2[D2.H.length]? = some C.H.length := by
  rw [hS2, List.getElem?_append_right (by simp)]; simp
 have hS2l : S2.length = D2.H.length + 1 := by rw [hS2]; simp
 have hr2 : ∀ i N, i < D2.H.length → ρ i = rho S2 N i := fun i N hi => by unfold rho; rw [hS2i i hi]
 have hnd : S2.Nodup := by
  refine List.pairwise_iff_getElem.2 fun i j hi hj hij => ?_
  have hj' : j < D2.H.length ∨ j = D2.H.length := by omega
  have h1 := hS2i i (by omega)
  rw [List.getElem?_eq_getElem hi, Option.some.injEq, hρv] at h1
  rw [h1]
  rcases hj' with h | h
  ·have h2 := hS2i j h
   rw [List.getElem?_eq_getElem hj, Option.some.injEq, hρv] at h2
   rw [h2]
   split <;> split <;> omega
  ·subst h
   rw [List.getElem?_eq_getElem hj, Option.some.injEq] at hS2m
   rw [hS2m]
   split <;> omega
 have hSel2 : Sel (C1.back (List.range C.H.length) D2) S2 (D2.H ++ [.row .box sh [z]]) := ⟨hnd, by rw [hS2l]; simp, fun i b hib => by
  by_cases hi : i < D2.H.length
  ·rw [List.getElem?_append_left hi] at hib
   refine ⟨_, hS2i i hi, ?_⟩
   have := (back_in hSel hE2 hi).1
   rw [← hρe, hib] at this
   rw [this]
   show some (b.rn ρ) = _
   rw [blk_rn_congr (fun id h => hr2 id _ h) hD2 hib]
  ·have hi2 : i = D2.H.length := by
    have := (List.getElem?_eq_some_iff.1 hib).1
    simp only [List.length_append, List.length_cons, List.length_nil] at this
    omega
   subst hi2
   rw [List.getElem?_append_right (Nat.le_refl _), Nat.sub_self] at hib
   cases hib
   refine ⟨_, hS2m, ?_⟩
   rw [hbox]
   show some (Blk.row .box sh [z]) = some (Blk.row .box sh ([z].map _))
   rw [List.map_cons, List.map_nil, pure_rnA hz]⟩
 have hall : ∀ id, id < (C1.back (List.range C.H.length) D2).H.length → id ∈ S2 := fun id h => by
  rw [hbl] at h
  rcases Nat.lt_trichotomy id C.H.length with h1 | h1 | h1
  ·exact List.mem_of_getElem? (i := id) (by rw [hS2i id (by omega), hρv, if_pos h1])
  ·exact List.mem_of_getElem? (i := D2.H.length) (by rw [hS2m, h1])
  ·exact List.mem_of_getElem? (i := id - 1) (by rw [hS2i (id - 1) (by omega), hρv, if_neg (by omega)]; congr 1; omega)
 refine ⟨(C1.back (List.range C.H.length) D2).sub S2 (D2.H ++ [.row .box sh [z]]), rfl, rfl, sub_rep hB hSel2, perm_ext (hE.trans hBE) hB hSel2 (fun i hi => by rw [hS2i i (by omega), hρv, if_pos hi]) hall, fun v x r => sub_RT hSel2 ?_, sub_RT hSel2 ?_⟩
 ·have := back_RT hC1 hSel hE2 r
  rw [← hρe, r.rn_congr (fun id h => hr2 id _ h)] at this
  exact this
 ·show RT _ v0 (.ptr (rho S2 _ D2.H.length) 0 0)
  have : rho S2 (C1.back (List.range C.H.length) D2).H.length D2.H.length = C.H.length := by unfold rho; rw [hS2m]
  rw [this]
  exact hBE.RT hv
end Go.Bv
namespace Go.Bv
open Go
def alIx (ops : List Oper) : Nat := ((List.range ops.length).find? (isAl ops)).getD ops.length
/-- May the two come in any order that the region has? The one new variable may come at any time. -/
def evOk3 (ah : List (List Nat)) (a : Nat) (x y : Nat × EvK) : Bool :=
 match x.2, y.2 with
 | .eff _, .eff _ => memN (ah.getD x.1 []) y.1 || Nat.beq x.1 a
 | .eff W, .rd R => !touch W R || memN (ah.getD x.1 []) y.1
 | .rd R, .eff W => !touch W R
 | _, _ => true
/-- What looks at the new variable comes behind all that stands ahead of it. -/
def lateOk (ops : List Oper) (ah : List (List Nat)) (a : Nat) : Bool := allLt ops.length fun j => !memN (ah.getD j []) a || allLt a fun i => memN (ah.getD j []) i
noncomputable def drC {P : Program} (Γ : Tab P) (n : Nat) (ops : List Oper) (fr : Fr) (H : List Blk) (K : Fr → List Blk → Prop) : Prop :=
 NP ((drOk ops (ahead [] ops) && (nodupB (ops.filterMap (·.dst)) && (zOk Γ ops && (isAl ops (alIx ops) && lateOk ops (ahead [] ops) (alIx ops))))) = true)
  (drun Γ n ops H ops 0 [] fr H fun E fr' H' => NP (drEg (evOk3 (ahead [] ops) (alIx ops)) E = true) (K fr' H'))
theorem dst_one' : ∀ {ops : List Oper}, (ops.filterMap (·.dst)).Nodup → ∀ {i j : Nat} {o p : Oper} {t : Tmp}, ops[i]? = some o → ops[j]? = some p → o.dst = some t → p.dst = some t → i = j
 | [], _, i, _, _, _, _, hi, _, _, _ => by simp at hi
 | x :: r, h, i, j, o, p, t, hi, hj, ho, hp => by
  have hr : (r.filterMap (·.dst)).Nodup := by
   rw [List.filterMap_cons] at h
   cases hx : x.dst with
   | none => rw [hx] at h; exact h
   | some d => rw [hx] at h; exact (List.nodup_cons.1 h).2
  have no : ∀ {j : Nat} {p : Oper}, x.dst = some t → r[j]? = some p → p.dst = some t → False := fun {j p} hx hj hp => by
   rw [List.filterMap_cons, hx] at h
   exact (List.nodup_cons.1 h).1 (List.mem_filterMap.2 ⟨p, List.mem_of_getElem? hj, hp⟩)
  cases i with
  | zero =>
   simp at hi; subst hi
   cases j with
   | zero => rfl
   | succ j => exact (no ho (by simpa using hj) hp).elim
  | succ i =>
   cases j with
   | zero => simp at hj; subst hj; exact (no hp (by simpa using hi) ho).elim
   | succ j => exact congrArg (· + 1) (dst_one' hr (i := i) (j := j) (by simpa using hi) (by simpa using hj) ho hp)
theorem dst_one {ops : List Oper} (h : nodupB (ops.filterMap (·.dst)) = true) {i j : Nat} {o p : Oper} {t : Tmp} (hi : ops[i]? = some o) (hj : ops[j]? = some p) (ho : o.dst = some t) (hp : p.dst = some t) : i = j := dst_one' (nodupB_spec _ h) hi hj ho hp
section
variable {P : Program} (Γ : Tab P) {n : Nat} {ops : Array Oper}
theorem dr_snd3 (hm : P.follows .mixedOrders = true) : DrSnd P n (drC Γ n) := by
 intro rid ops C0 C1 a1 fr K Q s h hQ
 obtain ⟨hok, h⟩ := h
 simp only [Bool.and_eq_true] at hok
 obtain ⟨hok, hndB, hzB, hAl, hlate⟩ := hok
 obtain ⟨A, hA⟩ : ∃ A, A = alIx ops.toList := ⟨_, rfl⟩
 rw [← hA] at hAl hlate
 obtain ⟨V, e, frs, Hs, rfl, hH0, hst, pre, ⟨hord, hK⟩, hpr⟩ := drun_exg Γ n ops.toList C1.H (evOk3 (ahead [] ops.toList) A) ops.toList 0 [] _ _ _ h
 rw [← hA] at hord
 have hpr := hpr hord
 refine wp_region_any hm ?_
 -- the static facts
 have hN : ops.toList.length = ops.size := by simp
 have hget : ∀ j o, ops[j]? = some o → ops.toList[j]? = some o := fun j o h => by rw [Array.getElem?_toList]; exact h
 have hah : ∀ j o, ops[j]? = some o → (∀ d ∈ deps o, d < j) ∧ (∀ x ∈ (ahead [] ops.toList).getD j [], x ∈ deps o ∨ ∃ d ∈ deps o, x ∈ (ahead [] ops.toList).getD d []) ∧
   ∀ i p, i < j → ops[i]? = some p → meets ops.toList p o = true → i ∈ (ahead [] ops.toList).getD j [] := by
  intro j o ho
  have hj : j < ops.toList.length := by rw [hN]; exact (Array.getElem?_eq_some_iff.1 ho).1
  have := allLt_spec hok j hj
  rw [hget j o ho] at this
  simp only [Bool.and_eq_true, List.all_eq_true, Bool.or_eq_true, List.any_eq_true, memN_iff] at this
  obtain ⟨⟨h1, h2⟩, h3⟩ := this
  refine ⟨fun d hd => by simpa [Nat.blt_eq] using h1 d hd, fun x hx => (h2 x hx).imp id fun ⟨d, hd, hx⟩ => ⟨d, hd, hx⟩, fun i p hi hp hmt => ?_⟩
  have := allLt_spec h3 i hi
  rw [hget i p hp] at this
  simp only [Bool.or_eq_true, Bool.not_eq_true', memN_iff] at this
  rcases this with h | h
  ·rw [hmt] at h; cases h
  ·exact h
 have hlt : ∀ j, j < ops.size → A ∈ (ahead [] ops.toList).getD j [] → ∀ i, i < A → i ∈ (ahead [] ops.toList).getD j [] := fun j hj hm i hi => by
  have := allLt_spec hlate j (by rw [hN]; exact hj)
  rw [Bool.or_eq_true, Bool.not_eq_true'] at this
  rcases this with h | h
  ·rw [(memN_iff _ _).2 hm] at h; cases h
  ·exact (memN_iff _ _).1 (allLt_spec h i hi)
 generalize ahead [] ops.toList = ah at *
 -- what is listed is closed
 have hclosed : ∀ (listed : Array Bool), (∀ j o, ops[j]? = some o → listed.getD j false = true → ∀ d ∈ deps o, listed.getD d false = true) →
   ∀ j o, ops[j]? = some o → (∀ d ∈ deps o, listed.getD d false = true) → ∀ x ∈ ah.getD j [], listed.getD x false = true := by
  intro listed hcl j
  induction j using Nat.strongRecOn with
  | _ j ih =>
   intro o ho hd x hx
   obtain ⟨h1, h2, _⟩ := hah j o ho
   rcases h2 x hx with h | ⟨d, hdd, hx⟩
   ·exact hd x h
   ·have hdj := h1 d hdd
    have hlt : d < ops.size := by have := (Array.getElem?_eq_some_iff.1 ho).1; omega
    exact ih d hdj ops[d] (Array.getElem?_eq_getElem hlt) (hcl d ops[d] (Array.getElem?_eq_getElem hlt) (hd d hdd)) x hx
 -- pairs of operations that have to do with owned blocks
 have hee : ∀ i j, i < j → j < ops.toList.length → j ≠ A → (e i).isEff = true → (e j).isEff = true → i ∈ ah.getD j [] := by
  intro i j hij hj hjA hi hj'
  have hni : e i ≠ .no := fun h => by rw [h] at hi; cases hi
  have hnj : e j ≠ .no := fun h => by rw [h] at hj'; cases hj'
  have := (hpr j hj hnj).2 i hij hni
  simp only [Nat.zero_add, evOk3] at this
  cases h1 : e i with
  | eff W =>
   cases h2 : e j with
   | eff W' =>
    rw [h1, h2] at this
    simp only [Bool.or_eq_true, memN_iff] at this
    rcases this with h | h
    ·exact h
    ·exact absurd (Nat.eq_of_beq_eq_true h) hjA
   | _ => rw [h2] at hj'; cases hj'
  | _ => rw [h1] at hi; cases hi
 -- slots between two points
 have hsame : ∀ t x y, x ≤ y → y ≤ ops.size → (∀ i p, x ≤ i → i < y → ops[i]? = some p → p.dst ≠ some t) → (frs y).get t = (frs x).get t := by
  intro t x y hxy
  obtain ⟨d, rfl⟩ := Nat.exists_eq_add_of_le hxy
  clear hxy
  induction d with
  | zero => intro _ _; rfl
  | succ d ih =>
   intro hy hno
   have hxy : x ≤ x + d := Nat.le_add_right _ _
   generalize hyy : x + d = y at *
   rw [show x + (d + 1) = y + 1 by omega] at *
   have hlt : y < ops.size := by omega
   obtain ⟨_, h2, _⟩ := hst y ops[y] (hget y _ (Array.getElem?_eq_getElem hlt))
   rw [h2, Fr.get_put, if_neg (hno y _ hxy (Nat.lt_succ_self y) (Array.getElem?_eq_getElem hlt))]
   exact ih (by omega) (fun i p h1 h2 => hno i p h1 (by omega))
 have hsameH : ∀ x y, x ≤ y → y ≤ ops.size → (∀ i, x ≤ i → i < y → (e i).isEff = false) → Hs y = Hs x := by
  intro x y hxy
  obtain ⟨d, rfl⟩ := Nat.exists_eq_add_of_le hxy
  clear hxy
  induction d with
  | zero => intro _ _; rfl
  | succ d ih =>
   intro hy hno
   have hxy : x ≤ x + d := Nat.le_add_right _ _
   generalize hyy : x + d = y at *
   rw [show x + (d + 1) = y + 1 by omega] at *
   have hlt : y < ops.size := by omega
   obtain ⟨_, _, h3⟩ := hst y ops[y] (hget y _ (Array.getElem?_eq_getElem hlt))
   have he := hno y hxy (Nat.lt_succ_self y)
   have : Hs (y + 1) = Hs y := by
    rcases h3 with ⟨_, ⟨_, h, _⟩ | ⟨h, _⟩ | ⟨_, _, h, _⟩⟩ | ⟨_, _, _, h⟩
    ·exact h
    ·rw [he] at h; cases h
    ·exact h
    ·exact h
   rw [this]
   exact ih (by omega) (fun i h1 h2 => hno i h1 (by omega))
 -- the new variable
 have hal : ∃ (q : Sh × AV) (o : Oper), ops[A]? = some o ∧ o.guard = none ∧ q.2.pure = true ∧ (e A).isEff = true ∧ V A = .ptr (Hs A).length 0 0 ∧ Hs (A + 1) = Hs A ++ [.row .box q.1 [q.2]] ∧
   ∀ (fr : Fr) (H : List Blk) (next : AV → List Blk → Prop), next (.ptr H.length 0 0) (H ++ [.row .box q.1 [q.2]]) → aop Γ fr o.op H next := by
  have hA' := hAl
  unfold isAl at hA'
  cases ho : ops.toList[A]? with
  | none => rw [ho] at hA'; simp at hA'
  | some o =>
   rw [ho] at hA'
   simp only [Bool.and_eq_true] at hA'
   obtain ⟨ha1, ha2⟩ := hA'
   have hg : o.guard = none := by cases hg : o.guard with
    | none => rfl
    | some g => rw [hg] at ha2; simp at ha2
   cases hop : o.op <;> rw [hop] at ha1 <;> try (simp at ha1; done)
   rename_i t
   have hj : A < ops.toList.length := (List.getElem?_eq_some_iff.1 ho).1
   have hz := allLt_spec hzB A hj
   simp only [hAl, ho, hop] at hz
   cases hti : tget Γ.tbl t with
   | none => rw [hti] at hz; simp at hz
   | some ti =>
    rw [hti] at hz
    obtain ⟨sh, by', kd, z⟩ := ti
    have inv : ∀ (fr : Fr) (H : List Blk) (next : AV → List Blk → Prop), aop Γ fr (.alloc t) H next → (isSh z sh && Nat.ble 1 sh.size) = true ∧ next (.ptr H.length 0 0) (H ++ [.row .box sh [z]]) := fun fr H next h => by
     simp only [aop, hti] at h
     split at h
     ·rename_i hs; exact ⟨hs, h⟩
     ·split at h
      ·split at h
       ·split at h
        ·exact absurd hz (by simp [AV.pure, AV.pure1])
        ·exact h.elim
       ·exact h.elim
      ·exact h.elim
    have oto : (isSh z sh && Nat.ble 1 sh.size) = true → ∀ (fr : Fr) (H : List Blk) (next : AV → List Blk → Prop), next (.ptr H.length 0 0) (H ++ [.row .box sh [z]]) → aop Γ fr (.alloc t) H next := fun hs fr H next h => by
     simp only [aop, hti, hs]; exact h
    refine ⟨(sh, z), o, by rw [← Array.getElem?_toList]; exact ho, hg, hz, ?_⟩
    obtain ⟨_, _, hf⟩ := hst A o ho
    rcases hf with ⟨_, ⟨_, _, hf | hf⟩ | ⟨hb, _, hf⟩ | ⟨R, _, _, hf⟩⟩ | ⟨hw, _⟩
    ·rw [hop] at hf; have := (inv _ _ _ hf).2.2; simp at this
    ·have hf := hf []; rw [hop] at hf; have := (inv _ _ _ hf).2.2; simp at this
    ·rw [hop] at hf
     obtain ⟨hs, h1, h2⟩ := inv _ _ _ hf
     exact ⟨hb, h1.symm, h2.symm, fun fr H next hn => by rw [hop]; exact oto hs fr H next hn⟩
    ·have hf := hf (fun _ => .dead) []; rw [hop] at hf
     have := (inv _ _ _ hf).2.2
     have := congrArg List.length this
     simp at this
    ·rw [hg] at hw; exact hw.elim
 obtain ⟨⟨shA, zA⟩, oA, hoA, hgA, hzA, heA, hVA, hHA, haop⟩ := hal
 simp only at hzA hHA haop
 have hAs : A < ops.size := (Array.getElem?_eq_some_iff.1 hoA).1
 have hdA : ∀ i p t, ops[i]? = some p → p.dst = some t → oA.dst = some t → i = A := fun i p t hp h1 h2 => dst_one hndB (hget i p hp) (hget A oA hoA) h1 h2
 -- what holds at each point
 let Slots : Array Bool → Ctx → Act → (Nat → Prop) → Prop := fun listed C a no => ∀ t, ¬ no t → ∃ k, k ≤ ops.size ∧ RT C (a.tmps.getD t undef) ((frs k).get t) ∧ ∀ (i : Nat) (p : Oper), ops[i]? = some p → p.dst = some t → (listed.getD i false = true ↔ i < k)
 let StN : Array Bool → Ctx → Act → Prop := fun listed C a => Ext C0 C ∧ Slots listed C a (fun _ => False) ∧ ∃ k, k ≤ ops.size ∧ C.H = Hs k ∧ ∀ i, i < ops.size → (e i).isEff = true → (listed.getD i false = true ↔ i < k)
 let StZ : Array Bool → Ctx → Act → Prop := fun listed C a => listed.getD A false = true ∧ Slots listed C a (fun t => oA.dst = some t) ∧ (∃ k, k ≤ A ∧ C.H = Hs k ∧ ∀ i, i < ops.size → i ≠ A → (e i).isEff = true → (listed.getD i false = true ↔ i < k)) ∧
  ∀ C2 : Ctx, Ext C C2 → HRep C2 → ∃ C3 : Ctx, C3.w = C2.w ∧ C3.H = C2.H ++ [.row .box shA [zA]] ∧ HRep C3 ∧ Ext C0 C3 ∧ (∀ (v : Value) (x : AV), RT C2 v x → RT C3 v x) ∧ ∀ t, oA.dst = some t → RT C3 (a.tmps.getD t undef) (.ptr C2.H.length 0 0)
 let StE : Array Bool → Ctx → Act → Prop := fun listed C a => StZ listed C a ∧ ∃ i, i < A ∧ (e i).isEff = true ∧ listed.getD i false = false
 have settle : ∀ (listed : Array Bool) (C : Ctx) (a : Act), HRep C → StZ listed C a → StE listed C a ∨ ∃ C3 : Ctx, C3.w = C.w ∧ HRep C3 ∧ StN listed C3 a := by
  intro listed C a hC hZ
  by_cases hex : ∃ i, i < A ∧ (e i).isEff = true ∧ listed.getD i false = false
  ·exact .inl ⟨hZ, hex⟩
  ·refine .inr ?_
   obtain ⟨hlA, hT, ⟨k, hkA, hH, hke⟩, hrev⟩ := hZ
   have hall : ∀ i, i < A → (e i).isEff = true → listed.getD i false = true := fun i hi he => by
    cases hb : listed.getD i false with
    | true => rfl
    | false => exact absurd ⟨i, hi, he, hb⟩ hex
   have hHkA : C.H = Hs A := by
    rw [hH]
    refine (hsameH k A hkA (by omega) fun i h1 h2 => ?_).symm
    cases hb : (e i).isEff with
    | false => rfl
    | true => have := (hke i (by omega) (by omega) hb).1 (hall i h2 hb); omega
   obtain ⟨C3, hw3, hH3, hC3, hE3, hR3, hv3⟩ := hrev C (Ext.refl C hC) hC
   refine ⟨C3, hw3, hC3, hE3, fun t _ => ?_, A + 1, by omega, by rw [hH3, hHkA, hHA], fun i hi he => ?_⟩
   ·by_cases hd : oA.dst = some t
    ·refine ⟨A + 1, by omega, ?_, fun i p hp hpd => ?_⟩
     ·obtain ⟨_, hfr, _⟩ := hst A oA (hget A oA hoA)
      rw [hfr, Fr.get_put, if_pos hd, hVA, ← hHkA]
      exact hv3 t hd
     ·have := hdA i p t hp hpd hd
      subst this
      simp [hlA]
    ·obtain ⟨k', h1, h2, h3⟩ := hT t hd
     exact ⟨k', h1, hR3 _ _ h2, h3⟩
   ·rcases Nat.lt_trichotomy i A with h | h | h
    ·simp [hall i h he]; omega
    ·subst h; simp [hlA]
    ·have := hke i hi (by omega) he
     constructor
     ·intro hl; have := this.1 hl; omega
     ·intro hl; omega
 -- all listed: the end
 have fin : ∀ (listed : Array Bool) (C : Ctx) (a : Act), (∀ i, i < ops.size → listed.getD i false = true) → HRep C → a.tmps.size = n → a.defers = [] → (StN listed C a ∨ StE listed C a) → Q .normal a C.w := by
  intro listed C a hall hC hn hdf hS
  rcases hS with ⟨hE, hT, k, hk, hH, hke⟩ | ⟨_, i, hi, _, hl⟩
  ·have hHN : C.H = Hs ops.toList.length := by
    rw [hN, hH]
    refine (hsameH k ops.size hk (Nat.le_refl _) fun i h1 h2 => ?_).symm
    cases hb : (e i).isEff with
    | false => rfl
    | true => have := (hke i h2 hb).1 (hall i h2); omega
   refine hQ C a (frs ops.toList.length) ⟨hE, hC, fun t => ?_, hn, hdf⟩ (by rw [hHN]; exact hK)
   obtain ⟨k, hk, hr, hkt⟩ := hT t id
   rw [hN, hsame t k ops.size hk (Nat.le_refl _) fun i p h1 h2 hp hd => ?_]
   ·exact hr
   ·have := (hkt i p hp hd).1 (hall i h2); omega
  ·rw [hall i (by omega)] at hl; cases hl
 -- the walk, in any order
 have main : ∀ (fuel : Nat) (listed : Array Bool) (C : Ctx) (a : Act), listed.size = ops.size → left listed ops.size ≤ fuel →
   (∀ (j : Nat) (o : Oper), ops[j]? = some o → listed.getD j false = true → ∀ d ∈ deps o, listed.getD d false = true) →
   HRep C → a.tmps.size = n → a.defers = [] → (StN listed C a ∨ StE listed C a) →
   wpAny P .any ops Q fuel listed a C.w := by
  intro fuel
  induction fuel with
  | zero =>
   intro listed C a hsz hl hcl hC hn hdf hS
   have hall := left_zero ops.size (by omega : left listed ops.size = 0)
   have hall' : ∀ i, i < ops.size → listed.getD i false = true := fun i hi => by rw [← getD_tf (by omega)]; exact hall i hi
   refine ⟨?_, fin listed C a hall' hC hn hdf hS⟩
   cases hr : Region.ready .any ops listed with
   | nil => rfl
   | cons x r =>
    have : x ∈ Region.ready .any ops listed := by rw [hr]; simp
    obtain ⟨h0, o, ho, _⟩ := mem_ready.1 this
    rw [hall x (Array.getElem?_eq_some_iff.1 ho).1] at h0; cases h0
  | succ fuel ih =>
   intro listed C a hsz hl hcl hC hn hdf hS
   refine ⟨fun hr => fin listed C a ?_ hC hn hdf hS, fun j hj => ?_⟩
   ·-- nothing is ready: all is listed
    intro i
    induction i using Nat.strongRecOn with
    | _ i ih =>
     intro hi
     cases hb : listed.getD i false with
     | true => rfl
     | false =>
      have ho : ops[i]? = some ops[i] := Array.getElem?_eq_getElem hi
      have : i ∈ Region.ready .any ops listed := mem_ready.2 ⟨by rw [getD_tf (by omega)]; exact hb, ops[i], ho, fun ed hed hbd => by
       have hd : ed.on ∈ deps ops[i] := List.mem_filterMap.2 ⟨ed, by simpa using hed, by simp [hbd]⟩
       have := (hah i _ ho).1 _ hd
       exact ih _ this (by omega)⟩
      rw [hr] at this; cases this
   ·obtain ⟨hun, o, ho, haft⟩ := mem_ready.1 hj
    have hjs : j < ops.size := (Array.getElem?_eq_some_iff.1 ho).1
    have hunf : listed.getD j false = false := by rw [← getD_tf (by omega)]; exact hun
    have hdl : ∀ d ∈ deps o, listed.getD d false = true := fun d hd => by
     obtain ⟨ed, hed, h⟩ := List.mem_filterMap.1 hd
     by_cases hb : Region.binds .any ed = true
     ·rw [if_pos hb] at h; cases h
      exact haft ed (by simpa using hed) hb
     ·rw [if_neg hb] at h; cases h
    have hahj := hclosed listed hcl j o ho hdl
    have hnot : ∀ i p, ops[i]? = some p → j ∈ ah.getD i [] → listed.getD i false = false := fun i p hp hm => by
     cases hb : listed.getD i false with
     | false => rfl
     | true =>
      have := hclosed listed hcl i p hp (hcl i p hp hb) j hm
      rw [hunf] at this; cases this
    obtain ⟨hdst, hfr, hf⟩ := hst j o (hget j o ho)
    obtain ⟨_, _, hmt⟩ := hah j o ho
    have hm1 : ∀ t, (t ∈ opTmps o.op ∨ t ∈ gTmps ops.toList o) → ∀ p : Oper, p.dst = some t → meets ops.toList p o = true := fun t ht p hp => by
     unfold meets
     rw [hp]
     simp only [Bool.or_eq_true, memN_iff]
     exact .inl (.inl ht)
    have hm2 : ∀ t, (t ∈ opTmps o.op ∨ t ∈ gTmps ops.toList o) → ∀ p : Oper, p.dst = some t → meets ops.toList o p = true := fun t ht p hp => by
     unfold meets
     rw [hp]
     simp only [Bool.or_eq_true, memN_iff]
     exact .inr ht
    -- while the new variable is let be, nothing looks at it
    have hnoA : StE listed C a → ∀ t, (t ∈ opTmps o.op ∨ t ∈ gTmps ops.toList o) → oA.dst ≠ some t := by
     intro ⟨⟨hlA, _⟩, i, hi, _, hl⟩ t ht hd
     rcases Nat.lt_trichotomy j A with h | h | h
     ·have := hnot A oA hoA ((hah A oA hoA).2.2 j o h ho (hm2 t ht oA hd))
      rw [hlA] at this; cases this
     ·rw [h, hlA] at hunf; cases hunf
     ·have := hahj i (hlt j hjs (hmt A oA h hoA (hm1 t ht oA hd)) i hi)
      rw [hl] at this; cases this
    have hslots : ∀ t, (t ∈ opTmps o.op ∨ t ∈ gTmps ops.toList o) → ∃ k, k ≤ ops.size ∧ RT C (a.tmps.getD t undef) ((frs k).get t) ∧ ∀ (i : Nat) (p : Oper), ops[i]? = some p → p.dst = some t → (listed.getD i false = true ↔ i < k) := by
     intro t ht
     rcases hS with ⟨_, hT, _⟩ | hS
     ·exact hT t id
     ·exact hS.1.2.1 t (hnoA hS t ht)
    -- a slot that the operation looks at
    have hread : ∀ t, (t ∈ opTmps o.op ∨ t ∈ gTmps ops.toList o) → RT C (a.tmps.getD t undef) ((frs j).get t) := by
     intro t ht
     obtain ⟨k, hk, hr, hkt⟩ := hslots t ht
     rcases Nat.le_total k j with hkj | hkj
     ·rw [hsame t k j hkj (by omega) fun i p h1 h2 hp hd => ?_]
      ·exact hr
      ·have := (hkt i p hp hd).1 (hahj i (hmt i p h2 hp (hm1 t ht p hd)))
       omega
     ·rw [← hsame t j k hkj hk fun i p h1 h2 hp hd => ?_]
      ·exact hr
      ·have hl := (hkt i p hp hd).2 h2
       rcases Nat.lt_or_ge j i with hji | hji
       ·have := hnot i p hp ((hah i p hp).2.2 j o hji ho (hm2 t ht p hd))
        rw [this] at hl; cases hl
       ·have : i = j := by omega
        subst this
        rw [hunf] at hl; cases hl
    have hgt : ∀ i, i ≠ j → (listed.setIfInBounds j true).getD i false = listed.getD i false := fun i hi => getD_set_ne false (Ne.symm hi)
    have hgj : (listed.setIfInBounds j true).getD j false = true := by simp [show j < listed.size by omega]
    -- going on
    have go : ∀ (v : Value) (C' : Ctx), HRep C' → (StN (listed.setIfInBounds j true) C' (a.put o.dst v) ∨ StZ (listed.setIfInBounds j true) C' (a.put o.dst v)) → wpAny P .any ops Q fuel (listed.setIfInBounds j true) (a.put o.dst v) C'.w := by
     intro v C' hC' hS'
     have fin2 : ∀ C'' : Ctx, HRep C'' → (StN (listed.setIfInBounds j true) C'' (a.put o.dst v) ∨ StE (listed.setIfInBounds j true) C'' (a.put o.dst v)) → wpAny P .any ops Q fuel (listed.setIfInBounds j true) (a.put o.dst v) C''.w := by
      intro C'' hC'' hS''
      refine ih _ C'' _ (by simp [hsz]) (by have := left_set hun ops.size hjs; omega) ?_ hC'' ?_ ?_ hS''
      ·intro i p hp hi d hd
       by_cases hij : i = j
       ·subst hij
        rw [ho] at hp; cases hp
        exact getD_set_true (hdl d hd)
       ·rw [hgt i hij] at hi
        exact getD_set_true (hcl i p hp hi d hd)
      ·cases o.dst <;> simp [Act.put, hn]
      ·cases o.dst <;> simp [Act.put, hdf]
     rcases hS' with hS' | hS'
     ·exact fin2 C' hC' (.inl hS')
     ·rcases settle _ _ _ hC' hS' with h | ⟨C3, hw3, hC3, h⟩
      ·exact fin2 C' hC' (.inr h)
      ·rw [← hw3]; exact fin2 C3 hC3 (.inl h)
    -- the slots behind it
    have slots' : ∀ (no : Nat → Prop) (v : Value) (C' : Ctx), (∀ (v : Value) (x : AV), RT C v x → RT C' v x) → (∀ t, o.dst = some t → ¬ no t → RT C' v (V j)) → (∀ t, ¬ no t → o.dst ≠ some t → ∃ k, k ≤ ops.size ∧ RT C (a.tmps.getD t undef) ((frs k).get t) ∧ ∀ (i : Nat) (p : Oper), ops[i]? = some p → p.dst = some t → (listed.getD i false = true ↔ i < k)) →
      Slots (listed.setIfInBounds j true) C' (a.put o.dst v) no := by
     intro no v C' hRT hv hT t hnt
     by_cases htd : o.dst = some t
     ·refine ⟨j + 1, by omega, ?_, fun i p hp hd => ?_⟩
      ·have hlt : t < a.tmps.size := by
        rw [htd] at hdst
        rw [hn]; simpa [dstOk, Nat.blt_eq] using hdst
       have hv := hv t htd hnt
       rw [hfr, Fr.get_put, if_pos htd, htd]
       simp only [Act.put]
       simp only [Array.getD_eq_getD_getElem?, Array.getElem?_setIfInBounds_self_of_lt hlt, Option.getD_some]
       exact hv
      ·have : i = j := dst_one hndB (hget i p hp) (hget j o ho) hd htd
       subst this
       simp [hgj]
     ·obtain ⟨k, hk, hr, hkt⟩ := hT t hnt htd
      refine ⟨k, hk, ?_, fun i p hp hd => ?_⟩
      ·have : (a.put o.dst v).tmps.getD t undef = a.tmps.getD t undef := by
        cases hd : o.dst with
        | none => rfl
        | some d =>
         have hne : d ≠ t := fun e => htd (by rw [hd, e])
         simp only [Act.put, Array.getD_eq_getD_getElem?, Array.getElem?_setIfInBounds_ne hne]
       rw [this]; exact hRT _ _ hr
      ·have : i ≠ j := fun e => by subst e; rw [ho] at hp; cases hp; exact htd hd
       rw [hgt i this]; exact hkt i p hp hd
    have hkeep : ∀ (v : Value) (t : Nat), o.dst ≠ some t → (a.put o.dst v).tmps.getD t undef = a.tmps.getD t undef := fun v t htd => by
     cases hd : o.dst with
     | none => rfl
     | some d =>
      have hne : d ≠ t := fun e => htd (by rw [hd, e])
      simp only [Act.put, Array.getD_eq_getD_getElem?, Array.getElem?_setIfInBounds_ne hne]
    -- where the heap is
    have hheap : j ≠ A → (e j).isEff = true → C.H = Hs j := by
     intro hjA hb
     have key : ∀ k, k ≤ ops.size → C.H = Hs k → (∀ i, i < ops.size → i < j → (e i).isEff = true → listed.getD i false = true → i < k) → k ≤ j → C.H = Hs j := fun k hk hH hke hkj => by
      rw [hH]
      refine (hsameH k j hkj (by omega) fun i h1 h2 => ?_).symm
      cases hei : (e i).isEff with
      | false => rfl
      | true =>
       have := hke i (by omega) h2 hei (hahj i (hee i j h2 (by rw [hN]; exact hjs) hjA hei hb))
       omega
     rcases hS with ⟨_, _, k, hk, hH, hke⟩ | ⟨⟨hlA, _, ⟨k, hkA, hH, hke⟩, _⟩, i, hi, hei, hl⟩
     ·refine key k hk hH (fun i hi _ hei hl => (hke i hi hei).1 hl) ?_
      refine Nat.le_of_not_lt fun hlt => ?_
      rw [(hke j hjs hb).2 hlt] at hunf; cases hunf
     ·have hjl : j < A := by
       rcases Nat.lt_trichotomy j A with h | h | h
       ·exact h
       ·exact absurd h hjA
       ·have := hahj i (hee i j (by omega) (by rw [hN]; exact hjs) hjA hei hb)
        rw [hl] at this; cases this
      refine key k (by omega) hH (fun i hi hij hei hl => (hke i hi (by omega) hei).1 hl) ?_
      refine Nat.le_of_not_lt fun hlt => ?_
      rw [(hke j hjs hjA hb).2 hlt] at hunf; cases hunf
    -- what comes behind it
    have step : j ≠ A → ∀ (v : Value) (C' : Ctx), Ext C C' → HRep C' → RT C' v (V j) → (C'.H = C.H ∧ (e j).isEff = false ∨ C'.H = Hs (j + 1) ∧ (e j).isEff = true ∧ C.H = Hs j) →
      wpAny P .any ops Q fuel (listed.setIfInBounds j true) (a.put o.dst v) C'.w := by
     intro hjA v C' hE' hC' hv hH'
     refine go v C' hC' ?_
     rcases hS with ⟨hE, hT, k, hk, hHk, hke⟩ | ⟨⟨hlA, hT, ⟨k, hkA, hHk, hke⟩, hrev⟩, i0, hi0, hei0, hl0⟩
     ·refine .inl ⟨hE.trans hE', slots' _ v C' (fun v x r => hE'.RT r) (fun _ _ _ => hv) (fun t h _ => hT t h), ?_⟩
      rcases hH' with ⟨hH', hb⟩ | ⟨hH', hb, hHj⟩
      ·refine ⟨k, hk, by rw [hH']; exact hHk, fun i hi hei => ?_⟩
       have : i ≠ j := fun e => by subst e; rw [hb] at hei; cases hei
       rw [hgt i this]; exact hke i hi hei
      ·have hkj : k ≤ j := Nat.le_of_not_lt fun hlt => by rw [(hke j hjs hb).2 hlt] at hunf; cases hunf
       refine ⟨j + 1, by omega, hH', fun i hi hei => ?_⟩
       by_cases hij : i = j
       ·subst hij; simp [hgj]
       ·rw [hgt i hij]
        rcases Nat.lt_or_ge i j with h | h
        ·simp [hahj i (hee i j h (by rw [hN]; exact hjs) hjA hei hb)]; omega
        ·have := hke i hi hei
         constructor
         ·intro hl; have := this.1 hl; omega
         ·intro hl; omega
     ·have hdj : ∀ t, oA.dst = some t → o.dst ≠ some t := fun t h1 h2 => hjA (hdA j o t ho h2 h1)
      refine .inr ⟨by rw [hgt A (Ne.symm hjA)]; exact hlA, slots' _ v C' (fun v x r => hE'.RT r) (fun _ _ _ => hv) (fun t h _ => hT t h), ?_, fun C2 hE2 hC2 => ?_⟩
      ·rcases hH' with ⟨hH', hb⟩ | ⟨hH', hb, hHj⟩
       ·refine ⟨k, hkA, by rw [hH']; exact hHk, fun i hi hiA hei => ?_⟩
        have : i ≠ j := fun e => by subst e; rw [hb] at hei; cases hei
        rw [hgt i this]; exact hke i hi hiA hei
       ·have hkj : k ≤ j := Nat.le_of_not_lt fun hlt => by rw [(hke j hjs hjA hb).2 hlt] at hunf; cases hunf
        have hjl : j < A := by
         rcases Nat.lt_trichotomy j A with h | h | h
         ·exact h
         ·exact absurd h hjA
         ·have := hahj i0 (hee i0 j (by omega) (by rw [hN]; exact hjs) hjA hei0 hb)
          rw [hl0] at this; cases this
        refine ⟨j + 1, by omega, hH', fun i hi hiA hei => ?_⟩
        by_cases hij : i = j
        ·subst hij; simp [hgj]
        ·rw [hgt i hij]
         rcases Nat.lt_or_ge i j with h | h
         ·simp [hahj i (hee i j h (by rw [hN]; exact hjs) hjA hei hb)]; omega
         ·have := hke i hi hiA hei
          constructor
          ·intro hl; have := this.1 hl; omega
          ·intro hl; omega
      ·obtain ⟨C3, g1, g2, g3, g4, g5, g6⟩ := hrev C2 (hE'.trans hE2) hC2
       exact ⟨C3, g1, g2, g3, g4, g5, fun t ht => by rw [hkeep v t (hdj t ht)]; exact g6 t ht⟩
    -- is it wanted
    have hwant : ∀ {T E : Prop}, aWanted ops.toList (frs j) o.guard T E → (Region.wanted o (yielded ops a.tmps) = true ∧ T) ∨ (Region.wanted o (yielded ops a.tmps) = false ∧ E) := by
     intro T E hw
     have hw' : aWanted ops.toList ((gTmps ops.toList o).map fun t => (t, (frs j).get t)) o.guard T E := by
      refine aWanted_congr (fun d hd => ?_) hw
      exact pick_get d _ hd _
     refine aWanted_snd (C0 := C) (n := n) ⟨Ext.refl C hC, hC, fun t => ?_, hn, hdf⟩ hw'
     rcases pick_get' (frs j) (gTmps ops.toList o) t with ⟨h1, h2⟩ | h2
     ·rw [h2]; exact hread t (.inr h1)
     ·rw [h2]; trivial
    have hfrok : FrOk C a (opFr (frs j) o.op) := fun t => by
     rcases opFr_get (frs j) o.op t with ⟨h1, h2⟩ | h2
     ·rw [h2]; exact hread t (.inl h1)
     ·rw [h2]; trivial
    unfold wpOp
    simp only [ho]
    by_cases hjA : j = A
    ·-- the new variable
     subst hjA
     rw [hoA] at ho; cases ho
     have hw : aWanted ops.toList (frs j) oA.guard True False := by rw [hgA]; trivial
     rcases hwant hw with ⟨hw, _⟩ | ⟨_, h⟩
     ·rw [hw, if_pos rfl]
      left
      obtain ⟨r, H', ⟨rfl, rfl⟩, hy⟩ := aop_snd Γ hC hfrok (haop (opFr (frs j) oA.op) C.H (fun x b => x = .ptr C.H.length 0 0 ∧ b = C.H ++ [.row .box shA [zA]]) ⟨rfl, rfl⟩)
      refine hy _ _ fun v C' hCH hE' hC' hv => ?_
      rcases hS with ⟨hE, hT, k, hk, hHk, hke⟩ | ⟨⟨hlA, _⟩, _⟩
      ·obtain ⟨D, hDw, hDH, hD, hDT, hrev⟩ := late hC hE' hC' hCH hzA hv
       rw [← hDw]
       refine go v D hD (.inr ⟨hgj, slots' _ v D hDT (fun t h1 h2 => absurd h1 h2) (fun t _ _ => hT t id), ?_, fun C2 hE2 hC2 => ?_⟩)
       ·have hkj : k ≤ j := Nat.le_of_not_lt fun hlt => by rw [(hke j hjs heA).2 hlt] at hunf; cases hunf
        exact ⟨k, hkj, by rw [hDH]; exact hHk, fun i hi hiA hei => by rw [hgt i hiA]; exact hke i hi hei⟩
       ·obtain ⟨C3, g1, g2, g3, g4, g5, g6⟩ := hrev C2 hE2 hC2
        refine ⟨C3, g1, g2, g3, hE.trans g4, g5, fun t ht => ?_⟩
        have hlt : t < a.tmps.size := by
         rw [ht] at hdst
         rw [hn]; simpa [dstOk, Nat.blt_eq] using hdst
        rw [ht]
        simp only [Act.put, Array.getD_eq_getD_getElem?, Array.getElem?_setIfInBounds_self_of_lt hlt, Option.getD_some]
        exact g6
      ·rw [hlA] at hunf; cases hunf
     ·exact h.elim
    ·rcases hf with ⟨hw, hf⟩ | ⟨hw, hV, hb, hHj⟩
     ·rcases hwant hw with ⟨hw, _⟩ | ⟨_, h⟩
      ·rw [hw, if_pos rfl]
       left
       rcases hf with ⟨hb, hHj, hf | hf⟩ | ⟨hb, _, hf⟩ | ⟨R, hb, hHj, hf⟩
       ·-- it hangs on nothing owned
        obtain ⟨r, H', ⟨rfl, rfl⟩, hy⟩ := aop_snd Γ (C := C.shut) (shut_rep hC) (a := a) (fr := lowFr (opFr (frs j) o.op)) (fun t => by rw [lowFr_get]; exact shut_RT (hfrok t)) hf
        refine hy _ _ fun v D hDH hED hD hv => ?_
        have hJ := join_RT hC hED hv
        rw [shT_eq hDH hv] at hJ
        exact step hjA v (C.join D) (join_ext hC hED) (join_rep hC hED hD) hJ (.inl ⟨by simp [Ctx.join, hDH], by rw [hb]; rfl⟩)
       ·-- whatever is owned
        obtain ⟨r, H', ⟨rfl, rfl⟩, hy⟩ := aop_snd Γ hC hfrok (hf C.H)
        refine hy _ _ fun v C' hCH hE' hC' hv => ?_
        exact step hjA v C' hE' hC' hv (.inl ⟨hCH, by rw [hb]; rfl⟩)
       ·obtain ⟨r, H', ⟨rfl, rfl⟩, hy⟩ := aop_snd Γ hC hfrok (by rw [hheap hjA hb]; exact hf)
        refine hy _ _ fun v C' hCH hE' hC' hv => ?_
        exact step hjA v C' hE' hC' hv (.inr ⟨hCH, hb, hheap hjA hb⟩)
       ·-- it reads blocks that nothing before it has changed
        have hHk' : ∃ k, k ≤ ops.size ∧ C.H = Hs k ∧ ∀ i, i < k → (e i).isEff = true → listed.getD i false = true := by
         rcases hS with ⟨_, _, k, hk, hH, hke⟩ | ⟨⟨_, _, ⟨k, hkA, hH, hke⟩, _⟩, _⟩
         ·exact ⟨k, hk, hH, fun i hi hei => (hke i (by omega) hei).2 hi⟩
         ·exact ⟨k, by omega, hH, fun i hi hei => (hke i (by omega) (by omega) hei).2 hi⟩
        obtain ⟨k, hk, hHk, hke⟩ := hHk'
        have hag : ∀ y, y ≤ k → (Hs 0).length ≤ (Hs y).length ∧ ∀ id, id < (Hs 0).length → id ∈ R → (Hs y)[id]? = (Hs 0)[id]? := by
         intro y
         induction y with
         | zero => intro _; exact ⟨Nat.le_refl _, fun _ _ _ => rfl⟩
         | succ y ihy =>
          intro hyk
          obtain ⟨h1, h2⟩ := ihy (by omega)
          obtain ⟨_, _, h3⟩ := hst y ops[y] (hget y _ (Array.getElem?_eq_getElem (by omega)))
          have same : Hs (y + 1) = Hs y → (Hs 0).length ≤ (Hs (y + 1)).length ∧ ∀ id, id < (Hs 0).length → id ∈ R → (Hs (y + 1))[id]? = (Hs 0)[id]? := fun h => by rw [h]; exact ⟨h1, h2⟩
          rcases h3 with ⟨_, ⟨_, h, _⟩ | ⟨hey, hW, _⟩ | ⟨_, _, h, _⟩⟩ | ⟨_, _, _, h⟩
          ·exact same h
          ·have hly := hke y (by omega) hey
           have hyj : y ≠ j := fun h => by subst h; rw [hb] at hey; cases hey
           have hnj : e j ≠ .no := by rw [hb]; simp
           have hny : e y ≠ .no := fun h => by rw [h] at hey; cases hey
           have hnt : ∃ W, e y = .eff (some W) ∧ touch (some W) R = false := by
            cases hy' : e y with
            | no => exact absurd hy' hny
            | rd _ => rw [hy'] at hey; cases hey
            | eff Wo =>
             have ht : touch Wo R = false := by
              rcases Nat.lt_or_gt_of_ne hyj with hlt | hgt
              ·have := (hpr j (by rw [hN]; exact hjs) hnj).2 y hlt hny
               simp only [evOk3, hb, hy'] at this
               simpa using this
              ·have := (hpr y (by rw [hN]; omega) hny).2 j hgt hnj
               simp only [evOk3, hb, hy', Nat.zero_add, Bool.or_eq_true, memN_iff] at this
               rcases this with h | h
               ·simpa using h
               ·rw [hnot y ops[y] (Array.getElem?_eq_getElem (by omega)) h] at hly; cases hly
             cases Wo with
             | none => simp [touch] at ht
             | some W => exact ⟨W, rfl, ht⟩
           obtain ⟨W, hyW, ht⟩ := hnt
           obtain ⟨g1, g2⟩ := agree_get (hW W hyW)
           refine ⟨by omega, fun id hid hr => ?_⟩
           rw [g2 id (by omega) ?_, h2 id hid hr]
           rw [Nat.zero_add]
           intro hm
           simp only [touch, List.any_eq_false, memN_iff] at ht
           exact ht id hr hm
          ·exact same h
          ·exact same h
        obtain ⟨g1, g2⟩ := hag k (Nat.le_refl _)
        obtain ⟨f, T, hfT⟩ := holes_eq (R := R) 0 (Hs 0) (Hs k) g1 (fun id hid hr => g2 id hid (by simpa using hr))
        have hCf : C.H = holes R f T 0 C1.H := by rw [hHk, hfT, hH0]
        obtain ⟨r, H', ⟨rfl, rfl⟩, hy⟩ := aop_snd Γ hC hfrok (by rw [hCf]; exact hf f T)
        refine hy _ _ fun v C' hCH hE' hC' hv => ?_
        exact step hjA v C' hE' hC' hv (.inl ⟨by rw [hCH, hCf], by rw [hb]; rfl⟩)
      ·exact h.elim
     ·rcases hwant hw with ⟨_, h⟩ | ⟨hw, _⟩
      ·exact h.elim
      ·rw [hw]
       simp only [Bool.false_eq_true, if_false]
       exact step hjA undef C (Ext.refl C hC) hC (by rw [hV]; exact ⟨#[], rfl, rfl, fun i h => by simp at h⟩) (.inl ⟨rfl, by rw [hb]; rfl⟩)
 obtain ⟨hE1, hC1⟩ := grown_ext s.rep (w' := { C1.w with drawn := C1.w.drawn + 1 }) rfl rfl rfl (Nat.le_refl _) (fun _ _ => rfl)
 refine main ops.size _ { C1 with w := { C1.w with drawn := C1.w.drawn + 1 } } a1 (by simp) ?_ ?_ hC1 s.size s.defers (.inl ⟨s.ext.trans hE1, ?_, ?_⟩)
 ·have : ∀ (l : Array Bool) k, left l k ≤ k := by
   intro l k
   induction k with
   | zero => exact Nat.le_refl _
   | succ k ih => simp only [left]; split <;> omega
  exact this _ _
 ·intro j o _ hj
  simp [Array.getElem?_replicate] at hj
  split at hj <;> simp at hj
 ·intro t _
  refine ⟨0, Nat.zero_le _, hE1.RT (s.fr t), fun i p hp hd => ?_⟩
  simp [Array.getElem?_replicate]
  split <;> simp
 ·refine ⟨0, Nat.zero_le _, hH0.symm, fun i hi _ => ?_⟩
  simp [Array.getElem?_replicate]
  split <;> simp
/-- A region with a new variable, or one without. -/
noncomputable def drF {P : Program} (Γ : Tab P) (n : Nat) (ops : List Oper) (fr : Fr) (H : List Blk) (K : Fr → List Blk → Prop) : Prop :=
 match isAl ops (alIx ops) with
 | true => drC Γ n ops fr H K
 | false => drA Γ n ops fr H K
theorem dr_snd4 (hm : P.follows .mixedOrders = true) : DrSnd P n (drF Γ n) := by
 intro rid ops C0 C1 a1 fr K Q s h hQ
 unfold drF at h
 split at h
 ·exact dr_snd3 Γ hm rid ops C0 C1 a1 fr K Q s h hQ
 ·exact dr_snd Γ hm rid ops C0 C1 a1 fr K Q s h hQ
end
end Go.Bv
namespace Go.Bv
open Go
end Go.Bv
namespace Go.Bv
open Go
section
variable {α β : Type} {f : α → β} {a b : α} {l r : List α} {n : Nat}
theorem z0 : List.map f (a :: l) = f a :: List.map f l := rfl
theorem z1 : List.map f [] = [] := rfl
theorem z2 : (a :: l).length = l.length + 1 := rfl
theorem z3 : ([] : List α).length = 0 := rfl
theorem z4 : a :: l ++ r = a :: (l ++ r) := rfl
theorem z5 : [] ++ r = r := rfl
theorem z6 : (a :: l).set 0 b = b :: l := rfl
theorem z7 : (a :: l).set (n + 1) b = a :: l.set n b := rfl
theorem z8 : (a :: l)[0]? = some a := rfl
theorem z9 : (a :: l)[n + 1]? = l[n]? := rfl
theorem z10 : ([] : List α)[n]? = none := rfl
theorem z11 : (a :: l).take (n + 1) = a :: l.take n := rfl
theorem z12 : l.take 0 = [] := rfl
theorem z13 : (a :: l).drop (n + 1) = l.drop n := rfl
theorem z14 : l.drop 0 = l := rfl
theorem z15 : List.replicate (n + 1) a = a :: List.replicate n a := rfl
theorem z16 : List.replicate 0 a = [] := rfl
theorem tl0 (l : List α) : List.take l.length l = l := List.take_length
theorem tlm (f : α → β) (l : List α) : List.take l.length (List.map f l) = List.map f l := List.take_of_length_le (by simp)
end
theorem q0 {ν : Nat} {b : Bool} : AV.sh1 ν (.bool b : AV) = .bool b := rfl
theorem q1 {ν : Nat} {k : IntKind} {n : Int} : AV.sh1 ν (.int k n : AV) = .int k n := rfl
theorem q2 {ν : Nat} {s : List UInt8} : AV.sh1 ν (.str s : AV) = .str s := rfl
theorem q3 {ν : Nat}  : AV.sh1 ν (.nils : AV) = .nils := rfl
theorem q4 {ν : Nat}  : AV.sh1 ν (.nilfn : AV) = .nilfn := rfl
theorem q5 {ν : Nat} {sh : Sh} {l : List AV} : AV.sh1 ν (.list sh l : AV) = .list sh l := rfl
theorem q6 {ν : Nat} {sh : Sh} {x : AV} {o : Nat} : AV.sh1 ν (.at sh x o : AV) = .at sh x o := rfl
theorem q7 {ν : Nat} {id : Nat} {off : Nat} {len : Nat} : AV.sh1 ν (.own id off len : AV) = .own (id + ν) off len := rfl
theorem q8 {ν : Nat} {id : Nat} {i : Nat} {o : Nat} : AV.sh1 ν (.ptr id i o : AV) = .ptr (id + ν) i o := rfl
theorem q9 {ν : Nat} {id : Nat} : AV.sh1 ν (.map id : AV) = .map (id + ν) := rfl
theorem q10 {ν : Nat} {f : FuncId} {caps : List AV} : AV.sh1 ν (.fn f caps : AV) = .fn f caps := rfl
theorem q11 {ν : Nat} {cs : List AV} : AV.sh1 ν (.agg cs : AV) = .agg cs := rfl
theorem q12 {ν : Nat} {vs : List AV} : AV.sh1 ν (.tup vs : AV) = .tup vs := rfl
theorem q13 {ν : Nat}  : AV.sh1 ν (.undef : AV) = .undef := rfl
theorem q14 {ν : Nat} {b : Bool} : AV.shR ν (.bool b : AV) = .bool b := rfl
theorem q15 {ν : Nat} {k : IntKind} {n : Int} : AV.shR ν (.int k n : AV) = .int k n := rfl
theorem q16 {ν : Nat} {s : List UInt8} : AV.shR ν (.str s : AV) = .str s := rfl
theorem q17 {ν : Nat}  : AV.shR ν (.nils : AV) = .nils := rfl
theorem q18 {ν : Nat}  : AV.shR ν (.nilfn : AV) = .nilfn := rfl
theorem q19 {ν : Nat} {sh : Sh} {l : List AV} : AV.shR ν (.list sh l : AV) = .list sh l := rfl
theorem q20 {ν : Nat} {sh : Sh} {x : AV} {o : Nat} : AV.shR ν (.at sh x o : AV) = .at sh x o := rfl
theorem q21 {ν : Nat} {id : Nat} {off : Nat} {len : Nat} : AV.shR ν (.own id off len : AV) = .own (id + ν) off len := rfl
theorem q22 {ν : Nat} {id : Nat} {i : Nat} {o : Nat} : AV.shR ν (.ptr id i o : AV) = .ptr (id + ν) i o := rfl
theorem q23 {ν : Nat} {id : Nat} : AV.shR ν (.map id : AV) = .map (id + ν) := rfl
theorem q24 {ν : Nat} {f : FuncId} {caps : List AV} : AV.shR ν (.fn f caps : AV) = .fn f (caps.map (AV.sh1 ν)) := rfl
theorem q25 {ν : Nat} {cs : List AV} : AV.shR ν (.agg cs : AV) = .agg cs := rfl
theorem q26 {ν : Nat} {vs : List AV} : AV.shR ν (.tup vs : AV) = .tup vs := rfl
theorem q27 {ν : Nat}  : AV.shR ν (.undef : AV) = .undef := rfl
theorem q28 {ν : Nat} {b : Bool} : AV.shA ν (.bool b : AV) = .bool b := rfl
theorem q29 {ν : Nat} {k : IntKind} {n : Int} : AV.shA ν (.int k n : AV) = .int k n := rfl
theorem q30 {ν : Nat} {s : List UInt8} : AV.shA ν (.str s : AV) = .str s := rfl
theorem q31 {ν : Nat}  : AV.shA ν (.nils : AV) = .nils := rfl
theorem q32 {ν : Nat}  : AV.shA ν (.nilfn : AV) = .nilfn := rfl
theorem q33 {ν : Nat} {sh : Sh} {l : List AV} : AV.shA ν (.list sh l : AV) = .list sh l := rfl
theorem q34 {ν : Nat} {sh : Sh} {x : AV} {o : Nat} : AV.shA ν (.at sh x o : AV) = .at sh x o := rfl
theorem q35 {ν : Nat} {id : Nat} {off : Nat} {len : Nat} : AV.shA ν (.own id off len : AV) = .own (id + ν) off len := rfl
theorem q36 {ν : Nat} {id : Nat} {i : Nat} {o : Nat} : AV.shA ν (.ptr id i o : AV) = .ptr (id + ν) i o := rfl
theorem q37 {ν : Nat} {id : Nat} : AV.shA ν (.map id : AV) = .map (id + ν) := rfl
theorem q38 {ν : Nat} {f : FuncId} {caps : List AV} : AV.shA ν (.fn f caps : AV) = .fn f (caps.map (AV.sh1 ν)) := rfl
theorem q39 {ν : Nat} {cs : List AV} : AV.shA ν (.agg cs : AV) = .agg (cs.map (AV.shR ν)) := rfl
theorem q40 {ν : Nat} {vs : List AV} : AV.shA ν (.tup vs : AV) = .tup vs := rfl
theorem q41 {ν : Nat}  : AV.shA ν (.undef : AV) = .undef := rfl
theorem q42 {ν : Nat} {b : Bool} : AV.shT ν (.bool b : AV) = .bool b := rfl
theorem q43 {ν : Nat} {k : IntKind} {n : Int} : AV.shT ν (.int k n : AV) = .int k n := rfl
theorem q44 {ν : Nat} {s : List UInt8} : AV.shT ν (.str s : AV) = .str s := rfl
theorem q45 {ν : Nat}  : AV.shT ν (.nils : AV) = .nils := rfl
theorem q46 {ν : Nat}  : AV.shT ν (.nilfn : AV) = .nilfn := rfl
theorem q47 {ν : Nat} {sh : Sh} {l : List AV} : AV.shT ν (.list sh l : AV) = .list sh l := rfl
theorem q48 {ν : Nat} {sh : Sh} {x : AV} {o : Nat} : AV.shT ν (.at sh x o : AV) = .at sh x o := rfl
theorem q49 {ν : Nat} {id : Nat} {off : Nat} {len : Nat} : AV.shT ν (.own id off len : AV) = .own (id + ν) off len := rfl
theorem q50 {ν : Nat} {id : Nat} {i : Nat} {o : Nat} : AV.shT ν (.ptr id i o : AV) = .ptr (id + ν) i o := rfl
theorem q51 {ν : Nat} {id : Nat} : AV.shT ν (.map id : AV) = .map (id + ν) := rfl
theorem q52 {ν : Nat} {f : FuncId} {caps : List AV} : AV.shT ν (.fn f caps : AV) = .fn f (caps.map (AV.sh1 ν)) := rfl
theorem q53 {ν : Nat} {cs : List AV} : AV.shT ν (.agg cs : AV) = .agg (cs.map (AV.shR ν)) := rfl
theorem q54 {ν : Nat} {vs : List AV} : AV.shT ν (.tup vs : AV) = .tup (vs.map (AV.shA ν)) := rfl
theorem q55 {ν : Nat}  : AV.shT ν (.undef : AV) = .undef := rfl
theorem q56 {ν : Nat → Nat} {b : Bool} : AV.rn1 ν (.bool b : AV) = .bool b := rfl
theorem q57 {ν : Nat → Nat} {k : IntKind} {n : Int} : AV.rn1 ν (.int k n : AV) = .int k n := rfl
theorem q58 {ν : Nat → Nat} {s : List UInt8} : AV.rn1 ν (.str s : AV) = .str s := rfl
theorem q59 {ν : Nat → Nat}  : AV.rn1 ν (.nils : AV) = .nils := rfl
theorem q60 {ν : Nat → Nat}  : AV.rn1 ν (.nilfn : AV) = .nilfn := rfl
theorem q61 {ν : Nat → Nat} {sh : Sh} {l : List AV} : AV.rn1 ν (.list sh l : AV) = .list sh l := rfl
theorem q62 {ν : Nat → Nat} {sh : Sh} {x : AV} {o : Nat} : AV.rn1 ν (.at sh x o : AV) = .at sh x o := rfl
theorem q63 {ν : Nat → Nat} {id : Nat} {off : Nat} {len : Nat} : AV.rn1 ν (.own id off len : AV) = .own (ν id) off len := rfl
theorem q64 {ν : Nat → Nat} {id : Nat} {i : Nat} {o : Nat} : AV.rn1 ν (.ptr id i o : AV) = .ptr (ν id) i o := rfl
theorem q65 {ν : Nat → Nat} {id : Nat} : AV.rn1 ν (.map id : AV) = .map (ν id) := rfl
theorem q66 {ν : Nat → Nat} {f : FuncId} {caps : List AV} : AV.rn1 ν (.fn f caps : AV) = .fn f caps := rfl
theorem q67 {ν : Nat → Nat} {cs : List AV} : AV.rn1 ν (.agg cs : AV) = .agg cs := rfl
theorem q68 {ν : Nat → Nat} {vs : List AV} : AV.rn1 ν (.tup vs : AV) = .tup vs := rfl
theorem q69 {ν : Nat → Nat}  : AV.rn1 ν (.undef : AV) = .undef := rfl
theorem q70 {ν : Nat → Nat} {b : Bool} : AV.rnR ν (.bool b : AV) = .bool b := rfl
theorem q71 {ν : Nat → Nat} {k : IntKind} {n : Int} : AV.rnR ν (.int k n : AV) = .int k n := rfl
theorem q72 {ν : Nat → Nat} {s : List UInt8} : AV.rnR ν (.str s : AV) = .str s := rfl
theorem q73 {ν : Nat → Nat}  : AV.rnR ν (.nils : AV) = .nils := rfl
theorem q74 {ν : Nat → Nat}  : AV.rnR ν (.nilfn : AV) = .nilfn := rfl
theorem q75 {ν : Nat → Nat} {sh : Sh} {l : List AV} : AV.rnR ν (.list sh l : AV) = .list sh l := rfl
theorem q76 {ν : Nat → Nat} {sh : Sh} {x : AV} {o : Nat} : AV.rnR ν (.at sh x o : AV) = .at sh x o := rfl
theorem q77 {ν : Nat → Nat} {id : Nat} {off : Nat} {len : Nat} : AV.rnR ν (.own id off len : AV) = .own (ν id) off len := rfl
theorem q78 {ν : Nat → Nat} {id : Nat} {i : Nat} {o : Nat} : AV.rnR ν (.ptr id i o : AV) = .ptr (ν id) i o := rfl
theorem q79 {ν : Nat → Nat} {id : Nat} : AV.rnR ν (.map id : AV) = .map (ν id) := rfl
theorem q80 {ν : Nat → Nat} {f : FuncId} {caps : List AV} : AV.rnR ν (.fn f caps : AV) = .fn f (caps.map (AV.rn1 ν)) := rfl
theorem q81 {ν : Nat → Nat} {cs : List AV} : AV.rnR ν (.agg cs : AV) = .agg cs := rfl
theorem q82 {ν : Nat → Nat} {vs : List AV} : AV.rnR ν (.tup vs : AV) = .tup vs := rfl
theorem q83 {ν : Nat → Nat}  : AV.rnR ν (.undef : AV) = .undef := rfl
theorem q84 {ν : Nat → Nat} {b : Bool} : AV.rnA ν (.bool b : AV) = .bool b := rfl
theorem q85 {ν : Nat → Nat} {k : IntKind} {n : Int} : AV.rnA ν (.int k n : AV) = .int k n := rfl
theorem q86 {ν : Nat → Nat} {s : List UInt8} : AV.rnA ν (.str s : AV) = .str s := rfl
theorem q87 {ν : Nat → Nat}  : AV.rnA ν (.nils : AV) = .nils := rfl
theorem q88 {ν : Nat → Nat}  : AV.rnA ν (.nilfn : AV) = .nilfn := rfl
theorem q89 {ν : Nat → Nat} {sh : Sh} {l : List AV} : AV.rnA ν (.list sh l : AV) = .list sh l := rfl
theorem q90 {ν : Nat → Nat} {sh : Sh} {x : AV} {o : Nat} : AV.rnA ν (.at sh x o : AV) = .at sh x o := rfl
theorem q91 {ν : Nat → Nat} {id : Nat} {off : Nat} {len : Nat} : AV.rnA ν (.own id off len : AV) = .own (ν id) off len := rfl
theorem q92 {ν : Nat → Nat} {id : Nat} {i : Nat} {o : Nat} : AV.rnA ν (.ptr id i o : AV) = .ptr (ν id) i o := rfl
theorem q93 {ν : Nat → Nat} {id : Nat} : AV.rnA ν (.map id : AV) = .map (ν id) := rfl
theorem q94 {ν : Nat → Nat} {f : FuncId} {caps : List AV} : AV.rnA ν (.fn f caps : AV) = .fn f (caps.map (AV.rn1 ν)) := rfl
theorem q95 {ν : Nat → Nat} {cs : List AV} : AV.rnA ν (.agg cs : AV) = .agg (cs.map (AV.rnR ν)) := rfl
theorem q96 {ν : Nat → Nat} {vs : List AV} : AV.rnA ν (.tup vs : AV) = .tup vs := rfl
theorem q97 {ν : Nat → Nat}  : AV.rnA ν (.undef : AV) = .undef := rfl
theorem q98 {ν : Nat → Nat} {b : Bool} : AV.rnT ν (.bool b : AV) = .bool b := rfl
theorem q99 {ν : Nat → Nat} {k : IntKind} {n : Int} : AV.rnT ν (.int k n : AV) = .int k n := rfl
theorem q100 {ν : Nat → Nat} {s : List UInt8} : AV.rnT ν (.str s : AV) = .str s := rfl
theorem q101 {ν : Nat → Nat}  : AV.rnT ν (.nils : AV) = .nils := rfl
theorem q102 {ν : Nat → Nat}  : AV.rnT ν (.nilfn : AV) = .nilfn := rfl
theorem q103 {ν : Nat → Nat} {sh : Sh} {l : List AV} : AV.rnT ν (.list sh l : AV) = .list sh l := rfl
theorem q104 {ν : Nat → Nat} {sh : Sh} {x : AV} {o : Nat} : AV.rnT ν (.at sh x o : AV) = .at sh x o := rfl
theorem q105 {ν : Nat → Nat} {id : Nat} {off : Nat} {len : Nat} : AV.rnT ν (.own id off len : AV) = .own (ν id) off len := rfl
theorem q106 {ν : Nat → Nat} {id : Nat} {i : Nat} {o : Nat} : AV.rnT ν (.ptr id i o : AV) = .ptr (ν id) i o := rfl
theorem q107 {ν : Nat → Nat} {id : Nat} : AV.rnT ν (.map id : AV) = .map (ν id) := rfl
theorem q108 {ν : Nat → Nat} {f : FuncId} {caps : List AV} : AV.rnT ν (.fn f caps : AV) = .fn f (caps.map (AV.rn1 ν)) := rfl
theorem q109 {ν : Nat → Nat} {cs : List AV} : AV.rnT ν (.agg cs : AV) = .agg (cs.map (AV.rnR ν)) := rfl
theorem q110 {ν : Nat → Nat} {vs : List AV} : AV.rnT ν (.tup vs : AV) = .tup (vs.map (AV.rnA ν)) := rfl
theorem q111 {ν : Nat → Nat}  : AV.rnT ν (.undef : AV) = .undef := rfl
theorem q112 {ν : Nat} : Blk.shift ν (.dead : Blk) = .dead := rfl
theorem q113 {ν : Nat} {sh : Sh} {es : List AV} : Blk.shift ν (.row .row sh es : Blk) = .row .row sh es := rfl
theorem q114 {ν : Nat} {sh : Sh} {es : List AV} : Blk.shift ν (.row .vrow sh es : Blk) = .row .vrow sh es := rfl
theorem q115 {ν : Nat} {sh : Sh} {es : List AV} : Blk.shift ν (.row .box sh es : Blk) = .row .box sh (es.map (AV.shA ν)) := rfl
theorem q116 {ν : Nat} {sh : Sh} {es : List AV} : Blk.shift ν (.ro sh es : Blk) = .ro sh es := rfl
theorem q117 {ν : Nat} {es : List (AV × AV)} : Blk.shift ν (.map es : Blk) = .map es := rfl
theorem q118 {ν : Nat → Nat} : Blk.rn ν (.dead : Blk) = .dead := rfl
theorem q119 {ν : Nat → Nat} {sh : Sh} {es : List AV} : Blk.rn ν (.row .row sh es : Blk) = .row .row sh es := rfl
theorem q120 {ν : Nat → Nat} {sh : Sh} {es : List AV} : Blk.rn ν (.row .vrow sh es : Blk) = .row .vrow sh es := rfl
theorem q121 {ν : Nat → Nat} {sh : Sh} {es : List AV} : Blk.rn ν (.row .box sh es : Blk) = .row .box sh (es.map (AV.rnA ν)) := rfl
theorem q122 {ν : Nat → Nat} {sh : Sh} {es : List AV} : Blk.rn ν (.ro sh es : Blk) = .ro sh es := rfl
theorem q123 {ν : Nat → Nat} {es : List (AV × AV)} : Blk.rn ν (.map es : Blk) = .map es := rfl
theorem q124 {H : List Blk} {b : Bool} : thaw H (.bool b : AV) = .bool b := rfl
theorem q125 {H : List Blk} {b : Bool} : thawA H (.bool b : AV) = .bool b := rfl
theorem q126 {H : List Blk} {k : IntKind} {n : Int} : thaw H (.int k n : AV) = .int k n := rfl
theorem q127 {H : List Blk} {k : IntKind} {n : Int} : thawA H (.int k n : AV) = .int k n := rfl
theorem q128 {H : List Blk} {s : List UInt8} : thaw H (.str s : AV) = .str s := rfl
theorem q129 {H : List Blk} {s : List UInt8} : thawA H (.str s : AV) = .str s := rfl
theorem q130 {H : List Blk}  : thaw H (.nils : AV) = .nils := rfl
theorem q131 {H : List Blk}  : thawA H (.nils : AV) = .nils := rfl
theorem q132 {H : List Blk}  : thaw H (.nilfn : AV) = .nilfn := rfl
theorem q133 {H : List Blk}  : thawA H (.nilfn : AV) = .nilfn := rfl
theorem q134 {H : List Blk} {sh : Sh} {l : List AV} : thaw H (.list sh l : AV) = .list sh l := rfl
theorem q135 {H : List Blk} {sh : Sh} {l : List AV} : thawA H (.list sh l : AV) = .list sh l := rfl
theorem q136 {H : List Blk} {sh : Sh} {x : AV} {o : Nat} : thaw H (.at sh x o : AV) = .at sh x o := rfl
theorem q137 {H : List Blk} {sh : Sh} {x : AV} {o : Nat} : thawA H (.at sh x o : AV) = .at sh x o := rfl
theorem q138 {H : List Blk} {id : Nat} {i : Nat} {o : Nat} : thaw H (.ptr id i o : AV) = .ptr id i o := rfl
theorem q139 {H : List Blk} {id : Nat} {i : Nat} {o : Nat} : thawA H (.ptr id i o : AV) = .ptr id i o := rfl
theorem q140 {H : List Blk} {id : Nat} : thaw H (.map id : AV) = .map id := rfl
theorem q141 {H : List Blk} {id : Nat} : thawA H (.map id : AV) = .map id := rfl
theorem q142 {H : List Blk} {f : FuncId} {caps : List AV} : thaw H (.fn f caps : AV) = .fn f caps := rfl
theorem q143 {H : List Blk} {f : FuncId} {caps : List AV} : thawA H (.fn f caps : AV) = .fn f caps := rfl
theorem q144 {H : List Blk} {cs : List AV} : thaw H (.agg cs : AV) = .agg cs := rfl
theorem q145 {H : List Blk} {cs : List AV} : thawA H (.agg cs : AV) = .agg (cs.map (thaw H)) := rfl
theorem q146 {H : List Blk} {vs : List AV} : thaw H (.tup vs : AV) = .tup vs := rfl
theorem q147 {H : List Blk} {vs : List AV} : thawA H (.tup vs : AV) = .tup vs := rfl
theorem q148 {H : List Blk}  : thaw H (.undef : AV) = .undef := rfl
theorem q149 {H : List Blk}  : thawA H (.undef : AV) = .undef := rfl
theorem q150 {H : List Blk} {id off len : Nat} : thawA H (.own id off len) = thaw H (.own id off len) := rfl
theorem y0 {cs : List AV} {o : Nat} : setCells cs o [] = cs := rfl
theorem y1 {cs r : List AV} {o : Nat} {x : AV} : setCells cs o (x :: r) = setCells (cs.set o x) (o + 1) r := rfl
theorem y2 {cs : List AV} : AV.cells (.agg cs) = cs := rfl
theorem y3 {b : Bool} : AV.cells (.bool b) = [.bool b] := rfl
theorem y4 {k : IntKind} {n : Int} : AV.cells (.int k n) = [.int k n] := rfl
theorem y5 {s : List UInt8} : AV.cells (.str s) = [.str s] := rfl
theorem y6  : AV.cells (.nils) = [.nils] := rfl
theorem y7  : AV.cells (.nilfn) = [.nilfn] := rfl
theorem y8 {sh : Sh} {l : List AV} : AV.cells (.list sh l) = [.list sh l] := rfl
theorem y9 {sh : Sh} {x : AV} {o : Nat} : AV.cells (.at sh x o) = [.at sh x o] := rfl
theorem y10 {id : Nat} {off : Nat} {len : Nat} : AV.cells (.own id off len) = [.own id off len] := rfl
theorem y11 {id : Nat} {i : Nat} {o : Nat} : AV.cells (.ptr id i o) = [.ptr id i o] := rfl
theorem y12 {id : Nat} : AV.cells (.map id) = [.map id] := rfl
theorem y13 {f : FuncId} {caps : List AV} : AV.cells (.fn f caps) = [.fn f caps] := rfl
theorem y14 {vs : List AV} : AV.cells (.tup vs) = [.tup vs] := rfl
theorem y15  : AV.cells (.undef) = [.undef] := rfl
end Go.Bv
namespace Go.Bv
open Go
section
variable {P : Program} {f : FuncId} {args args' : List AV} {H H' H'' : List Blk} {r r' : AV} {next : AV → List Blk → Prop}
theorem NCall.atA (h : ACalls P f args H r H') (hn : next r' H'')
  (er : r = r' := by (try dsimp only [z0, z1, z2, z3, z4, z5, z6, z7, z8, z9, z10, z11, z12, z13, z14, z15, z16, y0, y1, y2, y3, y4, y5, y6, y7, y8, y9, y10, y11, y12, y13, y14, y15, Nat.reduceAdd, Nat.reduceSub, q0, q1, q2, q3, q4, q5, q6, q7, q8, q9, q10, q11, q12, q13, q14, q15, q16, q17, q18, q19, q20, q21, q22, q23, q24, q25, q26, q27, q28, q29, q30, q31, q32, q33, q34, q35, q36, q37, q38, q39, q40, q41, q42, q43, q44, q45, q46, q47, q48, q49, q50, q51, q52, q53, q54, q55, q56, q57, q58, q59, q60, q61, q62, q63, q64, q65, q66, q67, q68, q69, q70, q71, q72, q73, q74, q75, q76, q77, q78, q79, q80, q81, q82, q83, q84, q85, q86, q87, q88, q89, q90, q91, q92, q93, q94, q95, q96, q97, q98, q99, q100, q101, q102, q103, q104, q105, q106, q107, q108, q109, q110, q111, q112, q113, q114, q115, q116, q117, q118, q119, q120, q121, q122, q123, q124, q125, q126, q127, q128, q129, q130, q131, q132, q133, q134, q135, q136, q137, q138, q139, q140, q141, q142, q143, q144, q145, q146, q147, q148, q149, q150, rho, setAll, roAll, thaw]) <;> exact rfl)
  (eH : H' = H'' := by (try dsimp only [z0, z1, z2, z3, z4, z5, z6, z7, z8, z9, z10, z11, z12, z13, z14, z15, z16, y0, y1, y2, y3, y4, y5, y6, y7, y8, y9, y10, y11, y12, y13, y14, y15, Nat.reduceAdd, Nat.reduceSub, q0, q1, q2, q3, q4, q5, q6, q7, q8, q9, q10, q11, q12, q13, q14, q15, q16, q17, q18, q19, q20, q21, q22, q23, q24, q25, q26, q27, q28, q29, q30, q31, q32, q33, q34, q35, q36, q37, q38, q39, q40, q41, q42, q43, q44, q45, q46, q47, q48, q49, q50, q51, q52, q53, q54, q55, q56, q57, q58, q59, q60, q61, q62, q63, q64, q65, q66, q67, q68, q69, q70, q71, q72, q73, q74, q75, q76, q77, q78, q79, q80, q81, q82, q83, q84, q85, q86, q87, q88, q89, q90, q91, q92, q93, q94, q95, q96, q97, q98, q99, q100, q101, q102, q103, q104, q105, q106, q107, q108, q109, q110, q111, q112, q113, q114, q115, q116, q117, q118, q119, q120, q121, q122, q123, q124, q125, q126, q127, q128, q129, q130, q131, q132, q133, q134, q135, q136, q137, q138, q139, q140, q141, q142, q143, q144, q145, q146, q147, q148, q149, q150, rho, setAll, roAll, thaw]) <;> exact rfl) : NCall P f args H next := NCall.atN h er eH hn
theorem NCall.subA {args0 : List AV} {H0 H0' : List Blk} (S : List Nat) (h : ACalls P f args0 H0 r H0') (hn : next r' H'')
  (hS : nodupB S = true := by exact rfl)
  (hH : S.map (fun j => H[j]?) = H0.map (fun b => some (b.rn (rho S H.length))) := by first | exact rfl | (simp [rho, Blk.rn, AV.rnA, AV.rnR, AV.rn1]; done))
  (ha : args = args0.map (AV.rnA (rho S H.length)) := by first | exact rfl | (simp [rho, AV.rnA, AV.rnR, AV.rn1]; done))
  (er : r.rnT (rho S H.length) = r' := by (try dsimp only [z0, z1, z2, z3, z4, z5, z6, z7, z8, z9, z10, z11, z12, z13, z14, z15, z16, y0, y1, y2, y3, y4, y5, y6, y7, y8, y9, y10, y11, y12, y13, y14, y15, Nat.reduceAdd, Nat.reduceSub, q0, q1, q2, q3, q4, q5, q6, q7, q8, q9, q10, q11, q12, q13, q14, q15, q16, q17, q18, q19, q20, q21, q22, q23, q24, q25, q26, q27, q28, q29, q30, q31, q32, q33, q34, q35, q36, q37, q38, q39, q40, q41, q42, q43, q44, q45, q46, q47, q48, q49, q50, q51, q52, q53, q54, q55, q56, q57, q58, q59, q60, q61, q62, q63, q64, q65, q66, q67, q68, q69, q70, q71, q72, q73, q74, q75, q76, q77, q78, q79, q80, q81, q82, q83, q84, q85, q86, q87, q88, q89, q90, q91, q92, q93, q94, q95, q96, q97, q98, q99, q100, q101, q102, q103, q104, q105, q106, q107, q108, q109, q110, q111, q112, q113, q114, q115, q116, q117, q118, q119, q120, q121, q122, q123, q124, q125, q126, q127, q128, q129, q130, q131, q132, q133, q134, q135, q136, q137, q138, q139, q140, q141, q142, q143, q144, q145, q146, q147, q148, q149, q150, rho, setAll, roAll, thaw]) <;> exact rfl)
  (eH : setAll H S ((H0'.take S.length).map (Blk.rn (rho S H.length))) ++ (H0'.drop S.length).map (Blk.rn (rho S H.length)) = H'' := by (try dsimp only [z0, z1, z2, z3, z4, z5, z6, z7, z8, z9, z10, z11, z12, z13, z14, z15, z16, y0, y1, y2, y3, y4, y5, y6, y7, y8, y9, y10, y11, y12, y13, y14, y15, Nat.reduceAdd, Nat.reduceSub, q0, q1, q2, q3, q4, q5, q6, q7, q8, q9, q10, q11, q12, q13, q14, q15, q16, q17, q18, q19, q20, q21, q22, q23, q24, q25, q26, q27, q28, q29, q30, q31, q32, q33, q34, q35, q36, q37, q38, q39, q40, q41, q42, q43, q44, q45, q46, q47, q48, q49, q50, q51, q52, q53, q54, q55, q56, q57, q58, q59, q60, q61, q62, q63, q64, q65, q66, q67, q68, q69, q70, q71, q72, q73, q74, q75, q76, q77, q78, q79, q80, q81, q82, q83, q84, q85, q86, q87, q88, q89, q90, q91, q92, q93, q94, q95, q96, q97, q98, q99, q100, q101, q102, q103, q104, q105, q106, q107, q108, q109, q110, q111, q112, q113, q114, q115, q116, q117, q118, q119, q120, q121, q122, q123, q124, q125, q126, q127, q128, q129, q130, q131, q132, q133, q134, q135, q136, q137, q138, q139, q140, q141, q142, q143, q144, q145, q146, q147, q148, q149, q150, rho, setAll, roAll, thaw]) <;> exact rfl) :
  NCall P f args H next := NCall.sub S h hS hH ha er eH hn
theorem NCall.roA (ids : List Nat) (h : NCall P f args' H' next)
  (eH : roAll H ids = H' := by (try dsimp only [z0, z1, z2, z3, z4, z5, z6, z7, z8, z9, z10, z11, z12, z13, z14, z15, z16, y0, y1, y2, y3, y4, y5, y6, y7, y8, y9, y10, y11, y12, y13, y14, y15, Nat.reduceAdd, Nat.reduceSub, q0, q1, q2, q3, q4, q5, q6, q7, q8, q9, q10, q11, q12, q13, q14, q15, q16, q17, q18, q19, q20, q21, q22, q23, q24, q25, q26, q27, q28, q29, q30, q31, q32, q33, q34, q35, q36, q37, q38, q39, q40, q41, q42, q43, q44, q45, q46, q47, q48, q49, q50, q51, q52, q53, q54, q55, q56, q57, q58, q59, q60, q61, q62, q63, q64, q65, q66, q67, q68, q69, q70, q71, q72, q73, q74, q75, q76, q77, q78, q79, q80, q81, q82, q83, q84, q85, q86, q87, q88, q89, q90, q91, q92, q93, q94, q95, q96, q97, q98, q99, q100, q101, q102, q103, q104, q105, q106, q107, q108, q109, q110, q111, q112, q113, q114, q115, q116, q117, q118, q119, q120, q121, q122, q123, q124, q125, q126, q127, q128, q129, q130, q131, q132, q133, q134, q135, q136, q137, q138, q139, q140, q141, q142, q143, q144, q145, q146, q147, q148, q149, q150, rho, setAll, roAll, thaw]) <;> exact rfl)
  (ea : args.map (thawA H') = args' := by (try dsimp only [z0, z1, z2, z3, z4, z5, z6, z7, z8, z9, z10, z11, z12, z13, z14, z15, z16, y0, y1, y2, y3, y4, y5, y6, y7, y8, y9, y10, y11, y12, y13, y14, y15, Nat.reduceAdd, Nat.reduceSub, q0, q1, q2, q3, q4, q5, q6, q7, q8, q9, q10, q11, q12, q13, q14, q15, q16, q17, q18, q19, q20, q21, q22, q23, q24, q25, q26, q27, q28, q29, q30, q31, q32, q33, q34, q35, q36, q37, q38, q39, q40, q41, q42, q43, q44, q45, q46, q47, q48, q49, q50, q51, q52, q53, q54, q55, q56, q57, q58, q59, q60, q61, q62, q63, q64, q65, q66, q67, q68, q69, q70, q71, q72, q73, q74, q75, q76, q77, q78, q79, q80, q81, q82, q83, q84, q85, q86, q87, q88, q89, q90, q91, q92, q93, q94, q95, q96, q97, q98, q99, q100, q101, q102, q103, q104, q105, q106, q107, q108, q109, q110, q111, q112, q113, q114, q115, q116, q117, q118, q119, q120, q121, q122, q123, q124, q125, q126, q127, q128, q129, q130, q131, q132, q133, q134, q135, q136, q137, q138, q139, q140, q141, q142, q143, q144, q145, q146, q147, q148, q149, q150, rho, setAll, roAll, thaw]) <;> exact rfl) : NCall P f args H next := NCall.ro ids eH ea h
end
section
variable {H H'' : List Blk} {id off len : Nat} {kk : RK} {sh : Sh} {es xs es' : List AV} {bytes n l : Nat} {next : AV → List Blk → Prop}
theorem NApp.endA (h1 : len = es.length) (hb : (es.length + xs.length) * bytes ≤ 2 ^ 46) (hn : next (.own n 0 l) H'') (h0 : off = 0 := by exact rfl)
  (en : H.length = n := by (try dsimp only [z0, z1, z2, z3, z4, z5, z6, z7, z8, z9, z10, z11, z12, z13, z14, z15, z16, y0, y1, y2, y3, y4, y5, y6, y7, y8, y9, y10, y11, y12, y13, y14, y15, Nat.reduceAdd, Nat.reduceSub, q0, q1, q2, q3, q4, q5, q6, q7, q8, q9, q10, q11, q12, q13, q14, q15, q16, q17, q18, q19, q20, q21, q22, q23, q24, q25, q26, q27, q28, q29, q30, q31, q32, q33, q34, q35, q36, q37, q38, q39, q40, q41, q42, q43, q44, q45, q46, q47, q48, q49, q50, q51, q52, q53, q54, q55, q56, q57, q58, q59, q60, q61, q62, q63, q64, q65, q66, q67, q68, q69, q70, q71, q72, q73, q74, q75, q76, q77, q78, q79, q80, q81, q82, q83, q84, q85, q86, q87, q88, q89, q90, q91, q92, q93, q94, q95, q96, q97, q98, q99, q100, q101, q102, q103, q104, q105, q106, q107, q108, q109, q110, q111, q112, q113, q114, q115, q116, q117, q118, q119, q120, q121, q122, q123, q124, q125, q126, q127, q128, q129, q130, q131, q132, q133, q134, q135, q136, q137, q138, q139, q140, q141, q142, q143, q144, q145, q146, q147, q148, q149, q150, rho, setAll, roAll, thaw]) <;> exact rfl)
  (ee : es ++ xs = es' := by (try dsimp only [z0, z1, z2, z3, z4, z5, z6, z7, z8, z9, z10, z11, z12, z13, z14, z15, z16, y0, y1, y2, y3, y4, y5, y6, y7, y8, y9, y10, y11, y12, y13, y14, y15, Nat.reduceAdd, Nat.reduceSub, q0, q1, q2, q3, q4, q5, q6, q7, q8, q9, q10, q11, q12, q13, q14, q15, q16, q17, q18, q19, q20, q21, q22, q23, q24, q25, q26, q27, q28, q29, q30, q31, q32, q33, q34, q35, q36, q37, q38, q39, q40, q41, q42, q43, q44, q45, q46, q47, q48, q49, q50, q51, q52, q53, q54, q55, q56, q57, q58, q59, q60, q61, q62, q63, q64, q65, q66, q67, q68, q69, q70, q71, q72, q73, q74, q75, q76, q77, q78, q79, q80, q81, q82, q83, q84, q85, q86, q87, q88, q89, q90, q91, q92, q93, q94, q95, q96, q97, q98, q99, q100, q101, q102, q103, q104, q105, q106, q107, q108, q109, q110, q111, q112, q113, q114, q115, q116, q117, q118, q119, q120, q121, q122, q123, q124, q125, q126, q127, q128, q129, q130, q131, q132, q133, q134, q135, q136, q137, q138, q139, q140, q141, q142, q143, q144, q145, q146, q147, q148, q149, q150, rho, setAll, roAll, thaw]) <;> exact rfl)
  (el : (es ++ xs).length = l := by (try dsimp only [z0, z1, z2, z3, z4, z5, z6, z7, z8, z9, z10, z11, z12, z13, z14, z15, z16, y0, y1, y2, y3, y4, y5, y6, y7, y8, y9, y10, y11, y12, y13, y14, y15, Nat.reduceAdd, Nat.reduceSub, q0, q1, q2, q3, q4, q5, q6, q7, q8, q9, q10, q11, q12, q13, q14, q15, q16, q17, q18, q19, q20, q21, q22, q23, q24, q25, q26, q27, q28, q29, q30, q31, q32, q33, q34, q35, q36, q37, q38, q39, q40, q41, q42, q43, q44, q45, q46, q47, q48, q49, q50, q51, q52, q53, q54, q55, q56, q57, q58, q59, q60, q61, q62, q63, q64, q65, q66, q67, q68, q69, q70, q71, q72, q73, q74, q75, q76, q77, q78, q79, q80, q81, q82, q83, q84, q85, q86, q87, q88, q89, q90, q91, q92, q93, q94, q95, q96, q97, q98, q99, q100, q101, q102, q103, q104, q105, q106, q107, q108, q109, q110, q111, q112, q113, q114, q115, q116, q117, q118, q119, q120, q121, q122, q123, q124, q125, q126, q127, q128, q129, q130, q131, q132, q133, q134, q135, q136, q137, q138, q139, q140, q141, q142, q143, q144, q145, q146, q147, q148, q149, q150, rho, setAll, roAll, thaw]) <;> exact rfl)
  (eH : H.set id .dead ++ [.row kk sh es'] = H'' := by (try dsimp only [z0, z1, z2, z3, z4, z5, z6, z7, z8, z9, z10, z11, z12, z13, z14, z15, z16, y0, y1, y2, y3, y4, y5, y6, y7, y8, y9, y10, y11, y12, y13, y14, y15, Nat.reduceAdd, Nat.reduceSub, q0, q1, q2, q3, q4, q5, q6, q7, q8, q9, q10, q11, q12, q13, q14, q15, q16, q17, q18, q19, q20, q21, q22, q23, q24, q25, q26, q27, q28, q29, q30, q31, q32, q33, q34, q35, q36, q37, q38, q39, q40, q41, q42, q43, q44, q45, q46, q47, q48, q49, q50, q51, q52, q53, q54, q55, q56, q57, q58, q59, q60, q61, q62, q63, q64, q65, q66, q67, q68, q69, q70, q71, q72, q73, q74, q75, q76, q77, q78, q79, q80, q81, q82, q83, q84, q85, q86, q87, q88, q89, q90, q91, q92, q93, q94, q95, q96, q97, q98, q99, q100, q101, q102, q103, q104, q105, q106, q107, q108, q109, q110, q111, q112, q113, q114, q115, q116, q117, q118, q119, q120, q121, q122, q123, q124, q125, q126, q127, q128, q129, q130, q131, q132, q133, q134, q135, q136, q137, q138, q139, q140, q141, q142, q143, q144, q145, q146, q147, q148, q149, q150, rho, setAll, roAll, thaw]) <;> exact rfl) : NApp H id off len kk sh es xs bytes next := NApp.enddN h0 h1 hb en ee el eH hn
theorem NApp.inA (h1 : off + len + xs.length ≤ es.length) (hn : next (.own id off l) H'')
  (el : len + xs.length = l := by (try dsimp only [z0, z1, z2, z3, z4, z5, z6, z7, z8, z9, z10, z11, z12, z13, z14, z15, z16, y0, y1, y2, y3, y4, y5, y6, y7, y8, y9, y10, y11, y12, y13, y14, y15, Nat.reduceAdd, Nat.reduceSub, q0, q1, q2, q3, q4, q5, q6, q7, q8, q9, q10, q11, q12, q13, q14, q15, q16, q17, q18, q19, q20, q21, q22, q23, q24, q25, q26, q27, q28, q29, q30, q31, q32, q33, q34, q35, q36, q37, q38, q39, q40, q41, q42, q43, q44, q45, q46, q47, q48, q49, q50, q51, q52, q53, q54, q55, q56, q57, q58, q59, q60, q61, q62, q63, q64, q65, q66, q67, q68, q69, q70, q71, q72, q73, q74, q75, q76, q77, q78, q79, q80, q81, q82, q83, q84, q85, q86, q87, q88, q89, q90, q91, q92, q93, q94, q95, q96, q97, q98, q99, q100, q101, q102, q103, q104, q105, q106, q107, q108, q109, q110, q111, q112, q113, q114, q115, q116, q117, q118, q119, q120, q121, q122, q123, q124, q125, q126, q127, q128, q129, q130, q131, q132, q133, q134, q135, q136, q137, q138, q139, q140, q141, q142, q143, q144, q145, q146, q147, q148, q149, q150, rho, setAll, roAll, thaw]) <;> exact rfl)
  (ee : es.take (off + len) ++ (xs ++ es.drop (off + len + xs.length)) = es' := by (try dsimp only [z0, z1, z2, z3, z4, z5, z6, z7, z8, z9, z10, z11, z12, z13, z14, z15, z16, y0, y1, y2, y3, y4, y5, y6, y7, y8, y9, y10, y11, y12, y13, y14, y15, Nat.reduceAdd, Nat.reduceSub, q0, q1, q2, q3, q4, q5, q6, q7, q8, q9, q10, q11, q12, q13, q14, q15, q16, q17, q18, q19, q20, q21, q22, q23, q24, q25, q26, q27, q28, q29, q30, q31, q32, q33, q34, q35, q36, q37, q38, q39, q40, q41, q42, q43, q44, q45, q46, q47, q48, q49, q50, q51, q52, q53, q54, q55, q56, q57, q58, q59, q60, q61, q62, q63, q64, q65, q66, q67, q68, q69, q70, q71, q72, q73, q74, q75, q76, q77, q78, q79, q80, q81, q82, q83, q84, q85, q86, q87, q88, q89, q90, q91, q92, q93, q94, q95, q96, q97, q98, q99, q100, q101, q102, q103, q104, q105, q106, q107, q108, q109, q110, q111, q112, q113, q114, q115, q116, q117, q118, q119, q120, q121, q122, q123, q124, q125, q126, q127, q128, q129, q130, q131, q132, q133, q134, q135, q136, q137, q138, q139, q140, q141, q142, q143, q144, q145, q146, q147, q148, q149, q150, rho, setAll, roAll, thaw]) <;> exact rfl)
  (eH : H.set id (.row kk sh es') = H'' := by (try dsimp only [z0, z1, z2, z3, z4, z5, z6, z7, z8, z9, z10, z11, z12, z13, z14, z15, z16, y0, y1, y2, y3, y4, y5, y6, y7, y8, y9, y10, y11, y12, y13, y14, y15, Nat.reduceAdd, Nat.reduceSub, q0, q1, q2, q3, q4, q5, q6, q7, q8, q9, q10, q11, q12, q13, q14, q15, q16, q17, q18, q19, q20, q21, q22, q23, q24, q25, q26, q27, q28, q29, q30, q31, q32, q33, q34, q35, q36, q37, q38, q39, q40, q41, q42, q43, q44, q45, q46, q47, q48, q49, q50, q51, q52, q53, q54, q55, q56, q57, q58, q59, q60, q61, q62, q63, q64, q65, q66, q67, q68, q69, q70, q71, q72, q73, q74, q75, q76, q77, q78, q79, q80, q81, q82, q83, q84, q85, q86, q87, q88, q89, q90, q91, q92, q93, q94, q95, q96, q97, q98, q99, q100, q101, q102, q103, q104, q105, q106, q107, q108, q109, q110, q111, q112, q113, q114, q115, q116, q117, q118, q119, q120, q121, q122, q123, q124, q125, q126, q127, q128, q129, q130, q131, q132, q133, q134, q135, q136, q137, q138, q139, q140, q141, q142, q143, q144, q145, q146, q147, q148, q149, q150, rho, setAll, roAll, thaw]) <;> exact rfl) : NApp H id off len kk sh es xs bytes next := NApp.inplN h1 el ee eH hn
theorem NApp.roA (h1 : len = es.length) (hb : (es.length + xs.length) * bytes ≤ 2 ^ 46) (hn : next (.list sh es') H'') (h0 : off = 0 := by exact rfl)
  (ee : es ++ xs = es' := by (try dsimp only [z0, z1, z2, z3, z4, z5, z6, z7, z8, z9, z10, z11, z12, z13, z14, z15, z16, y0, y1, y2, y3, y4, y5, y6, y7, y8, y9, y10, y11, y12, y13, y14, y15, Nat.reduceAdd, Nat.reduceSub, q0, q1, q2, q3, q4, q5, q6, q7, q8, q9, q10, q11, q12, q13, q14, q15, q16, q17, q18, q19, q20, q21, q22, q23, q24, q25, q26, q27, q28, q29, q30, q31, q32, q33, q34, q35, q36, q37, q38, q39, q40, q41, q42, q43, q44, q45, q46, q47, q48, q49, q50, q51, q52, q53, q54, q55, q56, q57, q58, q59, q60, q61, q62, q63, q64, q65, q66, q67, q68, q69, q70, q71, q72, q73, q74, q75, q76, q77, q78, q79, q80, q81, q82, q83, q84, q85, q86, q87, q88, q89, q90, q91, q92, q93, q94, q95, q96, q97, q98, q99, q100, q101, q102, q103, q104, q105, q106, q107, q108, q109, q110, q111, q112, q113, q114, q115, q116, q117, q118, q119, q120, q121, q122, q123, q124, q125, q126, q127, q128, q129, q130, q131, q132, q133, q134, q135, q136, q137, q138, q139, q140, q141, q142, q143, q144, q145, q146, q147, q148, q149, q150, rho, setAll, roAll, thaw]) <;> exact rfl)
  (eH : H.set id (.ro sh es) = H'' := by (try dsimp only [z0, z1, z2, z3, z4, z5, z6, z7, z8, z9, z10, z11, z12, z13, z14, z15, z16, y0, y1, y2, y3, y4, y5, y6, y7, y8, y9, y10, y11, y12, y13, y14, y15, Nat.reduceAdd, Nat.reduceSub, q0, q1, q2, q3, q4, q5, q6, q7, q8, q9, q10, q11, q12, q13, q14, q15, q16, q17, q18, q19, q20, q21, q22, q23, q24, q25, q26, q27, q28, q29, q30, q31, q32, q33, q34, q35, q36, q37, q38, q39, q40, q41, q42, q43, q44, q45, q46, q47, q48, q49, q50, q51, q52, q53, q54, q55, q56, q57, q58, q59, q60, q61, q62, q63, q64, q65, q66, q67, q68, q69, q70, q71, q72, q73, q74, q75, q76, q77, q78, q79, q80, q81, q82, q83, q84, q85, q86, q87, q88, q89, q90, q91, q92, q93, q94, q95, q96, q97, q98, q99, q100, q101, q102, q103, q104, q105, q106, q107, q108, q109, q110, q111, q112, q113, q114, q115, q116, q117, q118, q119, q120, q121, q122, q123, q124, q125, q126, q127, q128, q129, q130, q131, q132, q133, q134, q135, q136, q137, q138, q139, q140, q141, q142, q143, q144, q145, q146, q147, q148, q149, q150, rho, setAll, roAll, thaw]) <;> exact rfl) : NApp H id off len kk sh es xs bytes next := by
 subst ee eH; exact .ro h0 h1 hb hn
end
theorem NB.yes {b : Bool} {T E : Prop} (hb : b = true) (h : T) : NB b T E := by subst hb; exact h
theorem NB.no {b : Bool} {T E : Prop} (hb : b = false) (h : E) : NB b T E := by subst hb; exact h
/-- An answer that holds nothing owned. -/
theorem NRet.val {P : Program} {Γ : Tab P} {n0 : Nat} {rs : List ResultVar} {r : AV} {H' : List Blk} {fr : Fr} {H : List Blk}
  (h : ares Γ fr H rs fun as => cvsA n0 [] H as fun vs => cvH n0 [] H (List.range n0 ++ []) fun H'' => LeA (mkRes vs) r ∧ H' = H'') : NRet Γ n0 rs r H' fr H := .mk [] rfl h
end Go.Bv
