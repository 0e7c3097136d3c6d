/- Part of the lift: an abstract walk of the program's code, proved sound, and what it shows of this program. -/
import Derived.Test.YtkehoabgejdpgaaBvSnd11
namespace Go.Bv
open Go

theorem aop_snd {P : Program} (Γ : Tab P) {C : Ctx} (hC : HRep C) {a : Act} {fr : Fr} (hf : FrOk C a fr) {o : Oper} {next : AV → List Blk → Prop} (h : aop Γ fr o.op C.H next) : Snd P o a C next := by
  cases hop : o.op with
  | move x => rw [hop] at h; exact snd_move hC hf (.inl hop) h
  | assign x => rw [hop] at h; exact snd_move hC hf (.inr hop) h
  | pick c x y => rw [hop] at h; exact snd_pick Γ hC hf hop h
  | alloc t => rw [hop] at h; exact snd_alloc Γ hC hf hop h
  | box t x => rw [hop] at h; exact snd_box Γ hC hf hop h
  | build t p => rw [hop] at h; exact snd_build Γ hC hf hop h
  | buildSlice t n p => rw [hop] at h; exact snd_buildSlice Γ hC hf hop h
  | load t x => rw [hop] at h; exact snd_load Γ hC hf hop h
  | store t x y => rw [hop] at h; exact snd_store Γ hC hf hop h
  | nilCheck x => rw [hop] at h; exact snd_nilCheck Γ hC hf hop h
  | binOp op t x y yt => rw [hop] at h; exact snd_binOp Γ hC hf hop h
  | unOp op t x => rw [hop] at h; exact snd_unOp Γ hC hf hop h
  | convert s d x => rw [hop] at h; exact snd_convert Γ hC hf hop h
  | makeFunc f fi ca => rw [hop] at h; exact snd_makeFunc Γ hC hf hop h
  | makeMap t r =>
    rw [hop] at h
    cases r with
    | none => exact snd_makeMap Γ hC hf hop h
    | some r => exact h.elim
  | lookup t x ix ok => rw [hop] at h; exact snd_lookup Γ hC hf hop h
  | mapUpdate t x ix y => rw [hop] at h; exact snd_mapUpdate Γ hC hf hop h
  | makeSlice t l c => rw [hop] at h; exact snd_makeSlice Γ hC hf hop h
  | slice t x lo hi mx => rw [hop] at h; exact snd_slice Γ hC hf hop h
  | fieldAddr t x f => rw [hop] at h; exact snd_fieldAddr Γ hC hf hop h
  | field t x f => rw [hop] at h; exact snd_field Γ hC hf hop h
  | indexAddr t x ix => rw [hop] at h; exact snd_indexAddr Γ hC hf hop h
  | index t x ix => rw [hop] at h; exact snd_index Γ hC hf hop h
  | extract x i => rw [hop] at h; exact snd_extract Γ hC hf hop h
  | call c =>
    rw [hop] at h
    obtain ⟨ce, ca, ct⟩ := c
    cases ce with
    | value f => exact snd_call Γ hC hf hop h
    | invoke r m => exact h.elim
    | builtin b =>
      cases b with
      | len =>
        simp only [aop] at h
        split at h
        · rename_i t x hct hca
          exact snd_len Γ hC hf hop hct hca (by simp only [aop, hct, hca]; exact h)
        · exact h.elim
      | cap =>
        simp only [aop] at h
        split at h
        · rename_i t x hct hca
          exact snd_cap Γ hC hf hop hct hca (by simp only [aop, hct, hca]; exact h)
        · exact h.elim
      | append =>
        simp only [aop] at h
        split at h
        · rename_i t0 t1 s x hct hca
          exact snd_append Γ hC hf hop hct hca (by simp only [aop, hct, hca]; exact h)
        · exact h.elim
      | clear =>
        simp only [aop] at h
        split at h
        · rename_i t x hct hca
          exact snd_clear Γ hC hf hop hct hca (by simp only [aop, hct, hca]; exact h)
        · exact h.elim
      | max => exact snd_max Γ hC hf hop h
      | min => exact snd_min Γ hC hf hop h
      | _ => exact h.elim
  | _ => rw [hop] at h; exact h.elim

/-- The state of a walk: the frame, the owned blocks, since the call began (C0). -/
structure St (C0 : Ctx) (n : Nat) (C : Ctx) (a : Act) (fr : Fr) : Prop where
  ext : Ext C0 C
  rep : HRep C
  fr : FrOk C a fr
  size : a.tmps.size = n
  defers : a.defers = []

theorem St.put {C0 C C' : Ctx} {n : Nat} {a : Act} {fr : Fr} (s : St C0 n C a fr) (hE : Ext C C') (hC' : HRep C') {v : Value} {r : AV} (hv : RT C' v r) {d : Option Tmp} (hd : dstOk n d = true) : St C0 n C' (a.put d v) (fr.put d r) := by
  refine ⟨s.ext.trans hE, hC', (s.fr.ext hE).put hv (by rw [s.size]; exact hd), ?_, ?_⟩
  · cases d <;> simp [Act.put, s.size]
  · cases d <;> simp [Act.put, s.defers]

theorem St.eval_bool {C0 C : Ctx} {n : Nat} {a : Act} {fr : Fr} (s : St C0 n C a fr) {d : Nat} {b : Bool} (h : fr.get d = .bool b) : a.tmps[d]? = some (.bool b) := by
  have := s.fr d
  rw [h] at this
  have := this.bool
  rw [Array.getD_eq_getD_getElem?] at this
  cases he : a.tmps[d]? with
  | none => rw [he] at this; simp [undef] at this
  | some v => rw [he] at this; simpa using this

theorem aWanted_snd {C0 C : Ctx} {n : Nat} {a : Act} {fr : Fr} (s : St C0 n C a fr) {ops : Array Oper} {o : Oper} {T E : Prop} (h : aWanted ops.toList fr o.guard T E) :
    (Region.wanted o (yielded ops a.tmps) = true ∧ T) ∨ (Region.wanted o (yielded ops a.tmps) = false ∧ E) := by
  unfold aWanted at h
  split at h
  · rename_i hg
    exact .inl ⟨by simp [Region.wanted, hg], h⟩
  · rename_i j want hg
    split at h
    · rename_i o' ho'
      split at h
      · rename_i d hd
        split at h
        · rename_i b hb
          rw [Array.getElem?_toList] at ho'
          have hy : yielded ops a.tmps j = some b := by
            simp only [yielded, ho', Option.bind_some, hd, s.eval_bool hb]
          have hw : Region.wanted o (yielded ops a.tmps) = (some b == some want) := by simp [Region.wanted, hg, hy]
          split at h
          · rcases h.elim with ⟨e, h⟩ | ⟨e, h⟩
            · exact .inl ⟨by rw [hw, e]; rfl, h⟩
            · exact .inr ⟨by rw [hw, e]; rfl, h⟩
          · rcases h.elim with ⟨e, h⟩ | ⟨e, h⟩
            · exact .inr ⟨by rw [hw, e]; rfl, h⟩
            · exact .inl ⟨by rw [hw, e]; rfl, h⟩
        · rename_i vs hb
          split at h
          · rw [Array.getElem?_toList] at ho'
            have hv := s.fr d
            rw [hb] at hv
            obtain ⟨ws, hws, hsz, _⟩ := hv
            have hy : yielded ops a.tmps j = none := by
              simp only [yielded, ho', Option.bind_some, hd]
              rw [Array.getD_eq_getD_getElem?] at hws
              cases he : a.tmps[d]? with
              | none => rfl
              | some v => rw [he] at hws; simp only [Option.getD_some] at hws; subst hws; rfl
            exact .inr ⟨by simp [Region.wanted, hg, hy], h⟩
          · exact h.elim
        · exact h.elim
      · exact h.elim
    · exact h.elim

theorem awpOps_snd {P : Program} (Γ : Tab P) {C0 : Ctx} {n : Nat} {ops : Array Oper} {Q : Exit → Act → World → Prop} {K : Fr → List Blk → Prop} (hQ : ∀ C a fr, St C0 n C a fr → K fr C.H → Q .normal a C.w) :
    ∀ (rest : List Oper) (k : Nat), ops.toList.drop k = rest → ∀ (C : Ctx) (a : Act) (fr : Fr), St C0 n C a fr → awpOps Γ n ops.toList rest fr C.H K → wpOps P ops Q (List.range' k rest.length) a C.w
  | [], k, _, C, a, fr, s, h => hQ C a fr s h
  | o :: rest, k, hk, C, a, fr, s, h => by
    have hko : ops[k]? = some o := by
      rw [← Array.getElem?_toList]
      have := congrArg (·[0]?) hk
      simpa using this
    have hk' : ops.toList.drop (k + 1) = rest := by
      have := congrArg (List.drop 1) hk
      simpa using this
    simp only [List.length_cons, List.range'_succ, wpOps, hko]
    simp only [awpOps_cons] at h
    split at h
    · rename_i hd
      rcases aWanted_snd s h with ⟨hw, h⟩ | ⟨hw, h⟩
      · rw [hw, if_pos rfl]
        left
        obtain ⟨r, H', hn, hy⟩ := aop_snd Γ s.rep s.fr h
        rw [nrm_eq] at hn
        refine hy _ _ fun v C' hH hE hC' hv => ?_
        subst hH
        exact awpOps_snd Γ hQ rest (k + 1) hk' C' _ _ (s.put hE hC' hv hd) hn
      · rw [hw]
        simp only [Bool.false_eq_true, if_false]
        exact awpOps_snd Γ hQ rest (k + 1) hk' C _ _ (s.put (Ext.refl C s.rep) s.rep (v := undef) (r := .tup []) ⟨#[], rfl, rfl, fun i h => by simp at h⟩ hd) h
    · exact h.elim

theorem wp_loop_m {P : Program} {Q : Exit → Act → World → Prop} {c : Code} (J : Nat → Act → World → Prop) (round : ∀ m a w, J m a w → c.wp P (Exit.then (fun a' w' => ∃ m', m' < m ∧ J m' a' w') Q) a w) {m : Nat} {a : Act} {w : World} (h0 : J m a w) : (Code.loop c).wp P Q a w := by
  intro b k cs
  have key : ∀ m a w, J m a w → ∃ e a' w', Q e a' w' ∧ Arrives P (lone (b.at a (.code c :: .inLoop c :: k)) cs w) b k cs e a' w' := by
    intro m
    induction m using Nat.strongRecOn with
    | _ m ih =>
      intro a w hJ
      obtain ⟨e, a₁, w₁, hq, harr⟩ := round m a w hJ b (.inLoop c :: k) cs
      cases e with
      | normal =>
        obtain ⟨m', hlt, hJ'⟩ := hq
        obtain ⟨e₂, a₂, w₂, hq₂, harr₂⟩ := ih m' hlt a₁ w₁ hJ'
        exact ⟨e₂, a₂, w₂, hq₂, .of_steps (Steps.trans harr (.one step_inLoop)) harr₂⟩
      | exit id => exact ⟨_, a₁, w₁, hq, .pass (x := .inLoop c) rfl (fun _ _ => .inl (by simp)) harr⟩
      | goto l => exact ⟨_, a₁, w₁, hq, .pass (x := .inLoop c) rfl (fun _ _ => .inl (by simp)) harr⟩
      | ret => exact ⟨_, a₁, w₁, hq, .pass (x := .inLoop c) rfl (fun _ _ => .inl (by simp)) harr⟩
      | panic ch => exact ⟨_, a₁, w₁, hq, .pass (x := .inLoop c) rfl (fun _ _ => .inl (by simp)) harr⟩
      | outgrown => exact ⟨_, a₁, w₁, hq, .pass (x := .inLoop c) rfl (fun _ _ => .inl (by simp)) harr⟩
  obtain ⟨e, a', w', hq, harr⟩ := key m a w h0
  exact ⟨e, a', w', hq, .of_steps (.one step_loop) harr⟩

def AExit.toExit : AExit → Exit
  | .normal => .normal
  | .exit id => .exit id
  | .ret => .ret

theorem mkFr_get : ∀ (keep : List Nat) (vs : List AV) (t : Nat), (mkFr keep vs).get t = .undef ∨ ∃ i : Nat, keep[i]? = some t ∧ vs[i]? = some ((mkFr keep vs).get t)
  | [], _, t => .inl (by simp [mkFr, Fr.get])
  | _ :: _, [], t => .inl (by simp [mkFr, Fr.get])
  | k :: r, v :: q, t => by
    simp only [mkFr, Fr.get]
    cases hb : Nat.beq k t with
    | true =>
      have := Nat.eq_of_beq_eq_true hb
      subst this
      exact .inr ⟨0, rfl, rfl⟩
    | false =>
      rcases mkFr_get r q t with h | ⟨i, h1, h2⟩
      · exact .inl (by simpa using h)
      · exact .inr ⟨i + 1, by simpa using h1, by simpa using h2⟩

theorem BlksLe.get : ∀ {l l' : List Blk}, BlksLe l l' → l'.length = l.length ∧ ∀ (i : Nat) (b' : Blk), l'[i]? = some b' → ∃ b, l[i]? = some b ∧ BlkLe b b'
  | _, _, .nil => ⟨rfl, fun i b h => by simp at h⟩
  | _, _, .cons h hs => by
    obtain ⟨h1, h2⟩ := hs.get
    refine ⟨by simp [h1], fun i b' hb => ?_⟩
    cases i with
    | zero => simp at hb; subst hb; exact ⟨_, rfl, h⟩
    | succ i => simpa using h2 i b' (by simpa using hb)
theorem BlkLe.row_inv {b : Blk} {k : RK} {sh : Sh} {es' : List AV} (h : BlkLe b (.row k sh es')) : ∃ es, b = .row k sh es ∧ LeAs es es' := by
  cases h with
  | same => exact ⟨es', rfl, LeAs.refl _⟩
  | row k sh h => exact ⟨_, rfl, h⟩
theorem BlkLe.live {b b' : Blk} (h : BlkLe b b') (hl : b'.live) : b.live := by
  cases h with
  | same => exact hl
  | row k sh h => exact Blk.live_row h.length hl
  | kill b => exact hl.elim

section
variable {C : Ctx} {H2 : List Blk}
theorem weaken_ext (hC : HRep C) (hle : BlksLe C.H H2) : Ext C { C with H := H2 } where
  F := rfl
  os := rfl
  tape := rfl
  output := rfl
  size := Nat.le_refl _
  len := Nat.le_of_eq hle.get.1.symm
  beta := fun _ _ => rfl
  keep := fun _ _ _ => rfl
  fresh := fun id k hid hk _ => by
    have h1 := (List.getElem?_eq_some_iff.1 hk).1
    have h2 := hle.get.1
    dsimp only at h1
    omega
  rows := fun id k sh es _ he => by
    obtain ⟨b, hb, hl⟩ := hle.get.2 id _ he
    obtain ⟨es0, rfl, hes⟩ := hl.row_inv
    refine ⟨es0, hb, hes.length.symm, fun hlv => ?_⟩
    obtain ⟨c, T, fr, hc, _⟩ := hC.row id k sh es0 hb (hl.live hlv)
    exact ⟨c, T, fr, c, T, fr, hc, hc, rfl⟩
  maps := fun id es _ he => by
    obtain ⟨b, hb, hl⟩ := hle.get.2 id _ he
    cases hl with
    | same => exact ⟨es, hb⟩
  ros := fun id sh es _ he => by
    obtain ⟨b, hb, hl⟩ := hle.get.2 id _ he
    cases hl with
    | same => exact .inl hb
theorem weaken_rep (hC : HRep C) (hle : BlksLe C.H H2) : HRep { C with H := H2 } where
  inj := fun i j k m hk hm hlk hlm hb => by
    obtain ⟨k0, h1, h2⟩ := hle.get.2 i _ hk
    obtain ⟨m0, h3, h4⟩ := hle.get.2 j _ hm
    exact hC.inj i j k0 m0 h1 h3 (h2.live hlk) (h4.live hlm) hb
  notF := fun i k hk hl => by
    obtain ⟨k0, h1, h2⟩ := hle.get.2 i _ hk
    exact hC.notF i k0 h1 (h2.live hl)
  Flt := hC.Flt
  sz := fun id k sh es he => by
    obtain ⟨b, hb, hl⟩ := hle.get.2 id _ he
    obtain ⟨es0, rfl, _⟩ := hl.row_inv
    exact hC.sz id k sh es0 hb
  row := fun id k sh es he hlv => by
    obtain ⟨b, hb, hl⟩ := hle.get.2 id _ he
    have hE := weaken_ext hC hle
    obtain ⟨es0, rfl, hes⟩ := hl.row_inv
    obtain ⟨c, T, fr, hc, h1, h2, h3, h4⟩ := hC.row id k sh es0 hb (hl.live hlv)
    refine ⟨c, T, fr, hc, h1, by rw [hes.length]; exact h2, h3, fun i hi => ?_⟩
    have hi0 : i < es0.length := by rw [← hes.length]; exact hi
    obtain ⟨v, hv, hp, hs, hcell⟩ := h4 i hi0
    exact ⟨v, hE.RA (hv.le (hes.get i hi0 hi)), fun hk => hE.RP (RP.le (hes.get i hi0 hi) (hp hk)), hs, hcell⟩
  map := fun id es he => by
    obtain ⟨b, hb, hl⟩ := hle.get.2 id _ he
    have hE := weaken_ext hC hle
    cases hl with
    | same =>
      obtain ⟨me, cl, hm, hs, h⟩ := hC.map id es hb
      refine ⟨me, cl, hm, hs, fun j hj => ?_⟩
      obtain ⟨m, h1, h2, h3⟩ := h j hj
      exact ⟨m, h1, hE.RP h2, hE.RP h3⟩
end

theorem canon_snd {C0 C : Ctx} {n : Nat} {a : Act} {fr : Fr} (s : St C0 n C a fr) {keep : List Nat} {K : List AV → List Blk → Prop} (h : Canon C0.H.length fr C.H keep K) :
    ∃ vs C', C'.w = C.w ∧ K vs C'.H ∧ St C0 n C' a (mkFr keep vs) := by
  have key : ∀ (S : List Nat) (hS : (nodupB S && allGe C0.H.length S) = true) (vs vs' : List AV) (H' : List Blk), vs.length = (keep.map fr.get).length →
      (∀ (i : Nat) (h : i < (keep.map fr.get).length) (h' : i < vs.length), CvA C0.H.length S C.H (keep.map fr.get)[i] vs[i]) →
      H'.length = (List.range C0.H.length ++ S).length →
      (∀ (i : Nat) (h : i < (List.range C0.H.length ++ S).length) (h' : i < H'.length), ∃ b, C.H[(List.range C0.H.length ++ S)[i]]? = some b ∧ CvBlk C0.H.length S C.H b H'[i]) →
      LeAs vs vs' → ∃ C', C'.w = C.w ∧ True ∧ C'.H = H' ∧ St C0 n C' a (mkFr keep vs') := by
    intro S hS vs vs' H' hvl hvc hHl hHc hle
    obtain ⟨C', hw, rfl, hA, hE, hC'⟩ := anew s.ext s.rep hS hHl hHc
    refine ⟨C', hw, trivial, rfl, hE, hC', fun t => ?_, s.size, s.defers⟩
    rcases mkFr_get keep vs' t with h | ⟨i, h1, h2⟩
    · rw [h]; trivial
    · obtain ⟨hi', he⟩ := List.getElem?_eq_some_iff.1 h2
      have hi : i < vs.length := by rw [← hle.length]; exact hi'
      have hik : i < keep.length := (List.getElem?_eq_some_iff.1 h1).1
      have hkt : keep[i] = t := (List.getElem?_eq_some_iff.1 h1).2
      have := hvc i (by simpa using hik) hi
      simp only [List.getElem_map, hkt] at this
      have := hA.cvT s.rep this (s.fr t)
      rw [← he]
      exact this.le (hle.get i hi hi')
  rcases h with ⟨S, hS, h⟩ | ⟨S, vs', hS, h⟩ | ⟨S, vs', H'', hS, h⟩
  · obtain ⟨vs, hvl, hvc, h⟩ := cvsA_det h
    obtain ⟨H', hHl, hHc, h⟩ := cvH_det h
    obtain ⟨C', hw, h1, h2, s'⟩ := key S hS vs vs H' hvl hvc hHl hHc (LeAs.refl vs)
    exact ⟨vs, C', hw, by rw [h2]; exact h, s'⟩
  · obtain ⟨vs, hvl, hvc, h⟩ := cvsA_det h
    obtain ⟨H', hHl, hHc, hle, h⟩ := cvH_det h
    obtain ⟨C', hw, h1, h2, s'⟩ := key S hS vs vs' H' hvl hvc hHl hHc hle
    exact ⟨vs', C', hw, by rw [h2]; exact h, s'⟩
  · obtain ⟨vs, hvl, hvc, h⟩ := cvsA_det h
    obtain ⟨H', hHl, hHc, hle, hbl, h⟩ := cvH_det h
    obtain ⟨C', hw, h1, h2, s'⟩ := key S hS vs vs' H' hvl hvc hHl hHc hle
    rw [← h2] at hbl
    have hE := weaken_ext s'.rep hbl
    exact ⟨vs', { C' with H := H'' }, hw, h, s'.ext.trans hE, weaken_rep s'.rep hbl, fun t => hE.RT (s'.fr t), s'.size, s'.defers⟩

theorem adopt_snd {C0 : Ctx} {n : Nat} {a : Act} : ∀ (ad : List (Nat × Sh)) {C : Ctx} {fr : Fr} {k : Fr → List Blk → Prop}, St C0 n C a fr → adopt ad fr C.H k → ∃ fr' C', C'.w = C.w ∧ k fr' C'.H ∧ St C0 n C' a fr'
  | [], C, fr, k, s, h => ⟨fr, C, rfl, h, s⟩
  | (t, sh) :: r, C, fr, k, s, h => by
    simp only [adopt_cons] at h
    split at h
    · rename_i hn
      split at h
      · exact h.elim
      · rename_i m hm
        have hp : 0 < sh.size := Nat.pos_of_ne_zero hm
        have hv := s.fr t
        rw [hn] at hv
        have hv := hv.nils
        obtain ⟨C2, hw2, hH2, hE2, hC2, hr2⟩ := new_none s.rep (w' := C.w) (fun _ _ => rfl) (Nat.le_refl _) rfl rfl rfl hp none
        rw [← hH2] at h
        obtain ⟨fr', C', h1, h2, h3⟩ := adopt_snd r (C := C2) (fr := (t, .own C.H.length 0 0) :: fr) ⟨s.ext.trans hE2, hC2, fun q => by
          simp only [Fr.get]
          cases hb : Nat.beq t q with
          | true =>
            have := Nat.eq_of_beq_eq_true hb
            subst this
            rw [hv]; exact hr2
          | false => exact hE2.RT (s.fr q), s.size, s.defers⟩ h
        exact ⟨fr', C', by rw [h1, hw2], h2, h3⟩
    · exact h.elim

theorem adoptB_snd {C0 : Ctx} {n : Nat} {a : Act} {fr : Fr} {H H' : List Blk} (hA : AdoptB H H') : ∀ {C : Ctx}, C.H = H → St C0 n C a fr → ∃ C', C'.w = C.w ∧ C'.H = H' ∧ St C0 n C' a fr := by
  induction hA with
  | nil => intro C e s; exact ⟨C, rfl, e, s⟩
  | @cons H H' shB sh cs id o hid hcs hp h ih =>
    intro C e s
    subst e
    obtain ⟨C2, hw2, hH2, hE2, hC2, hr2⟩ := new_none s.rep (w' := C.w) (fun _ _ => rfl) (Nat.le_refl _) rfl rfl rfl hp none
    have hidl := (List.getElem?_eq_some_iff.1 hid).1
    have hid2 : C2.H[id]? = some (.row .box shB [.agg cs]) := by rw [hH2, List.getElem?_append_left hidl]; exact hid
    have hlive : (Blk.row .box shB [.agg cs]).live := trivial
    obtain ⟨c, T, fz, hc, hfz, hsz, hone, hel⟩ := hC2.row id .box shB [.agg cs] hid2 hlive
    have hw : World.write C2.w (C2.β id) c T fz = C2.w := by
      unfold World.write
      have : C2.w.heap.setIfInBounds (C2.β id) (.cells c T fz) = C2.w.heap := by
        apply Array.ext_getElem?
        intro q
        rw [Array.getElem?_setIfInBounds]
        split
        · rename_i e; subst e
          rw [if_pos (Array.getElem?_eq_some_iff.1 hc).1, hc]
        · rfl
      rw [this]
    have hE3 := set_ext0 (es' := [.agg (cs.set o (.own C.H.length 0 0))]) (T := T) (fr := fz) hC2 hid2 hlive rfl hc rfl
    have hrow : RowAt { C2 with w := World.write C2.w (C2.β id) c T fz, H := C2.H.set id (.row .box shB [.agg (cs.set o (.own C.H.length 0 0))]) } (C2.β id) .box shB [.agg (cs.set o (.own C.H.length 0 0))] := by
      refine ⟨c, T, fz, by rw [hw]; exact hc, hfz, hsz, hone, fun i hi => ?_⟩
      obtain ⟨v, h1, _, h3, h4⟩ := hel 0 (by simp)
      simp only [List.length_cons, List.length_nil] at hi
      have : i = 0 := by omega
      subst this
      refine ⟨v, ?_, fun hk => absurd rfl hk, h3, h4⟩
      obtain ⟨vs, rfl, hvs, hvc, hvo⟩ := h1
      refine ⟨vs, rfl, by simpa using hvs, fun i hi => ?_, hvo⟩
      have hi' : i < cs.length := by simpa using hi
      by_cases hio : i = o
      · subst hio
        simp only [List.getElem_set_self]
        have h5 := hvc i hi'
        have h6 : cs[i] = .nils := (List.getElem?_eq_some_iff.1 hcs).2
        rw [h6] at h5
        have h7 : RT C2 (vs.getD i undef) .nils := h5
        rw [h7.nils]
        exact hE3.R1 (a := .own C.H.length 0 0) hr2
      · simp only [List.getElem_set_ne (fun e => hio e.symm)]
        exact hE3.R1 (hvc i hi')
    have hC3 := set_hrep0 (es' := [.agg (cs.set o (.own C.H.length 0 0))]) (T := T) (fr := fz) hC2 hid2 hlive rfl hc rfl hrow
    rw [hw] at hE3 hC3
    have hH3 : C2.H.set id (.row .box shB [.agg (cs.set o (.own C.H.length 0 0))]) = C.H.set id (.row .box shB [.agg (cs.set o (.own C.H.length 0 0))]) ++ [.row .vrow sh []] := by
      rw [hH2, List.set_append_left _ _ hidl]
    obtain ⟨C', q1, q2, q3⟩ := ih (C := { C2 with H := C2.H.set id (.row .box shB [.agg (cs.set o (.own C.H.length 0 0))]) }) hH3
      ⟨(s.ext.trans hE2).trans hE3, hC3, fun q => hE3.RT (hE2.RT (s.fr q)), s.size, s.defers⟩
    exact ⟨C', by rw [q1]; exact hw2, q2, q3⟩

/-- How the regions whose order is open are walked: soundly. -/
def DrSnd (P : Program) (n : Nat) (dr : List Oper → Fr → List Blk → (Fr → List Blk → Prop) → Prop) : Prop :=
  ∀ (id : Nat) (ops : Array Oper) (C0 C : Ctx) (a : Act) (fr : Fr) (K : Fr → List Blk → Prop) (Q : Exit → Act → World → Prop), St C0 n C a fr → dr ops.toList fr C.H K → (∀ C a fr, St C0 n C a fr → K fr C.H → Q .normal a C.w) → (Code.region id ops true).wp P Q a C.w

theorem awp_snd {P : Program} (Γ : Tab P) {n : Nat} {dr : List Oper → Fr → List Blk → (Fr → List Blk → Prop) → Prop} (hdr : DrSnd P n dr) {C0 : Ctx} : ∀ (c : Code) (AQ : APost) (Q : Exit → Act → World → Prop) (C : Ctx) (a : Act) (fr : Fr),
    (∀ e C a fr, St C0 n C a fr → AQ e fr C.H → Q e.toExit a C.w) → St C0 n C a fr → awp Γ n C0.H.length dr c AQ fr C.H → c.wp P Q a C.w := by
  intro c
  induction c with
  | skip => intro AQ Q C a fr hQ s h; exact wp_skip (hQ .normal C a fr s h)
  | region id ops draw =>
    intro AQ Q C a fr hQ s h
    cases draw with
    | false =>
      refine wp_region ?_
      rw [List.range_eq_range']
      exact awpOps_snd Γ (fun C a fr s h => hQ .normal C a fr s h) ops.toList 0 rfl C a fr s h
    | true => exact hdr id ops C0 C a fr _ Q s h (fun C a fr s h => hQ .normal C a fr s h)
  | seq x y ihx ihy =>
    intro AQ Q C a fr hQ s h
    refine wp_seq (ihx _ _ C a fr (fun e C a fr s h => ?_) s h)
    cases e with
    | normal => exact ihy AQ Q C a fr hQ s h
    | exit id => exact hQ (.exit id) C a fr s h
    | ret => exact hQ .ret C a fr s h
  | cond c x y ihx ihy =>
    intro AQ Q C a fr hQ s h
    simp only [awp_cond] at h
    split at h
    · rename_i q hq
      have hc := s.fr.ev c
      rw [hq] at hc
      rcases h.elim with ⟨rfl, h⟩ | ⟨rfl, h⟩
      · exact wp_cond_true hc.bool (ihx AQ Q C a fr hQ s h)
      · exact wp_cond_false hc.bool (ihy AQ Q C a fr hQ s h)
    · exact h.elim
  | block id x ih =>
    intro AQ Q C a fr hQ s h
    refine wp_block (ih _ _ C a fr (fun e C a fr s h => ?_) s h)
    cases e with
    | normal => exact hQ .normal C a fr s h
    | exit j =>
      simp only [AExit.toExit, Exit.inBlock]
      dsimp only at h
      split at h
      · rename_i hb
        rw [if_pos (Nat.eq_of_beq_eq_true hb)]
        exact hQ .normal C a fr s h
      · rename_i hb
        rw [if_neg (fun e => by subst e; simp at hb)]
        exact hQ (.exit j) C a fr s h
    | ret => exact hQ .ret C a fr s h
  | loop x ih =>
    intro AQ Q C a fr hQ s h
    rcases h with ⟨ad, keep, Inv, hk, h0, hr⟩ | ⟨ad, keep, keepX, Inv, hk, h0, hr⟩ | ⟨hb, ad, keep, Inv, hk, h0, hr⟩ | ⟨hb, ad, keep, keepX, Inv, hk, h0, hr⟩
    rotate_right 2
    · obtain ⟨CB, hwB, hHB, sB⟩ := adoptB_snd hb rfl s
      rw [← hHB] at h0
      obtain ⟨fr1, C1, hw1, h0, s1⟩ := adopt_snd ad sB h0
      obtain ⟨vs, C2, hw2, ⟨m, h0⟩, s2⟩ := canon_snd s1 h0
      have hw : C2.w = C.w := by rw [hw2, hw1, hwB]
      rw [← hw]
      refine wp_loop_m (fun m a w => ∃ C vs, C.w = w ∧ St C0 n C a (mkFr keep vs) ∧ Inv m vs C.H) (fun m a w hJ => ?_) (m := m) ⟨C2, vs, rfl, s2, h0⟩
      obtain ⟨C, vs, rfl, s, hI⟩ := hJ
      refine ih _ _ C a _ (fun e C a fr s h => ?_) s (hr m vs C.H hI)
      cases e with
      | normal =>
        obtain ⟨vs', C', hw', ⟨m', hlt, hI'⟩, s'⟩ := canon_snd s h
        exact ⟨m', hlt, C', vs', hw', s', hI'⟩
      | exit id => exact hQ (.exit id) C a fr s h
      | ret => exact hQ .ret C a fr s h
    · obtain ⟨CB, hwB, hHB, sB⟩ := adoptB_snd hb rfl s
      rw [← hHB] at h0
      obtain ⟨fr1, C1, hw1, h0, s1⟩ := adopt_snd ad sB h0
      obtain ⟨vs, C2, hw2, ⟨m, h0⟩, s2⟩ := canon_snd s1 h0
      have hw : C2.w = C.w := by rw [hw2, hw1, hwB]
      rw [← hw]
      refine wp_loop_m (fun m a w => ∃ C vs, C.w = w ∧ St C0 n C a (mkFr keep vs) ∧ Inv m vs C.H) (fun m a w hJ => ?_) (m := m) ⟨C2, vs, rfl, s2, h0⟩
      obtain ⟨C, vs, rfl, s, hI⟩ := hJ
      refine ih _ _ C a _ (fun e C a fr s h => ?_) s (hr m vs C.H hI)
      cases e with
      | normal =>
        obtain ⟨vs', C', hw', ⟨m', hlt, hI'⟩, s'⟩ := canon_snd s h
        exact ⟨m', hlt, C', vs', hw', s', hI'⟩
      | exit id =>
          obtain ⟨vs', C', hw', hI', s'⟩ := canon_snd s h
          have := hQ (.exit id) C' a _ s' hI'
          rw [hw'] at this; exact this
      | ret => exact hQ .ret C a fr s h
    · obtain ⟨fr1, C1, hw1, h0, s1⟩ := adopt_snd ad s h0
      obtain ⟨vs, C2, hw2, ⟨m, h0⟩, s2⟩ := canon_snd s1 h0
      have hw : C2.w = C.w := by rw [hw2, hw1]
      rw [← hw]
      refine wp_loop_m (fun m a w => ∃ C vs, C.w = w ∧ St C0 n C a (mkFr keep vs) ∧ Inv m vs C.H) (fun m a w hJ => ?_) (m := m) ⟨C2, vs, rfl, s2, h0⟩
      obtain ⟨C, vs, rfl, s, hI⟩ := hJ
      refine ih _ _ C a _ (fun e C a fr s h => ?_) s (hr m vs C.H hI)
      cases e with
      | normal =>
        obtain ⟨vs', C', hw', ⟨m', hlt, hI'⟩, s'⟩ := canon_snd s h
        exact ⟨m', hlt, C', vs', hw', s', hI'⟩
      | exit id => exact hQ (.exit id) C a fr s h
      | ret => exact hQ .ret C a fr s h
    · obtain ⟨fr1, C1, hw1, h0, s1⟩ := adopt_snd ad s h0
      obtain ⟨vs, C2, hw2, ⟨m, h0⟩, s2⟩ := canon_snd s1 h0
      have hw : C2.w = C.w := by rw [hw2, hw1]
      rw [← hw]
      refine wp_loop_m (fun m a w => ∃ C vs, C.w = w ∧ St C0 n C a (mkFr keep vs) ∧ Inv m vs C.H) (fun m a w hJ => ?_) (m := m) ⟨C2, vs, rfl, s2, h0⟩
      obtain ⟨C, vs, rfl, s, hI⟩ := hJ
      refine ih _ _ C a _ (fun e C a fr s h => ?_) s (hr m vs C.H hI)
      cases e with
      | normal =>
        obtain ⟨vs', C', hw', ⟨m', hlt, hI'⟩, s'⟩ := canon_snd s h
        exact ⟨m', hlt, C', vs', hw', s', hI'⟩
      | exit id =>
          obtain ⟨vs', C', hw', hI', s'⟩ := canon_snd s h
          have := hQ (.exit id) C' a _ s' hI'
          rw [hw'] at this; exact this
      | ret => exact hQ .ret C a fr s h
  | exit id => intro AQ Q C a fr hQ s h; exact wp_exit (hQ (.exit id) C a fr s h)
  | ret => intro AQ Q C a fr hQ s h; exact wp_ret (hQ .ret C a fr s h)
  | label l => intro AQ Q C a fr hQ s h; exact wp_label (hQ .normal C a fr s h)
  | _ => intro AQ Q C a fr hQ s h; exact h.elim

theorem ares_snd {P : Program} (Γ : Tab P) {C0 C : Ctx} {n : Nat} {a : Act} {fr : Fr} (s : St C0 n C a fr) : ∀ (rs : List ResultVar) (k : List AV → Prop), ares Γ fr C.H rs k →
    ∃ as vs, k as ∧ vs.length = as.length ∧ as.length = rs.length ∧ (∀ (i : Nat) (h : i < as.length) (h' : i < vs.length), RT C vs[i] as[i]) ∧
      (rs.mapM fun | .tmp t => pure (a.tmps.getD t undef) | .cell x t => do loadVar t (← asAddr (a.tmps.getD x undef)) : Sem (List Value)).run P C.w = .ok vs C.w
  | [], k, h => ⟨[], [], h, rfl, rfl, fun i h => by simp at h, by simp⟩
  | .tmp t :: r, k, h => by
    simp only [ares_tmp] at h
    rw [force_eq] at h
    obtain ⟨as, vs, hk, h1, h2, h3, h4⟩ := ares_snd Γ s r _ h
    refine ⟨_, a.tmps.getD t undef :: vs, hk, by simp [h1], by simp [h2], fun i hi hi' => ?_, ?_⟩
    · cases i with
      | zero => exact s.fr t
      | succ i => exact h3 i (by simpa using hi) (by simpa using hi')
    · simp only [List.mapM_cons, Sem.run_bind, Sem.run_pure, Result.andThen_ok, h4]
  | .cell p t :: r, k, h => by
    simp only [ares_cell] at h
    split at h
    · rename_i sh by' kd ze hti
      obtain ⟨i, d, hi⟩ := Γ.info hti
      split at h
      · rename_i id j o hp
        split at h
        · rename_i s' x hid
          split at h
          · have hx := s.fr p
            rw [hp] at hx
            have hv := hx.ptr hid
            obtain ⟨c, T, fz, hc, _, hle, _, hel⟩ := s.rep.row id .box s' [x] hid trivial
            obtain ⟨v, hv', _, hs, hcell⟩ := hel 0 (by simp)
            obtain ⟨q, u, hn, hu, hrun⟩ := loadPart_snd (P := P) hi h hv' hs (b := C.β id) (o := 0 * s'.size) (fun q hq => by
              simp only [World.cell?, hc, Option.isSome_none, Bool.false_eq_true, if_false]; exact hcell q hq)
            obtain ⟨as, vs, hk, h1, h2, h3, h4⟩ := ares_snd Γ s r _ hn
            refine ⟨_, u :: vs, hk, by simp [h1], by simp [h2], fun i hi hi' => ?_, ?_⟩
            · cases i with
              | zero => simp only [List.getElem_cons_zero]; cases q <;> first | exact hu | exact hu.elim
              | succ i => exact h3 i (by simpa using hi) (by simpa using hi')
            · have has : (asAddr (a.tmps.getD p undef)).run P C.w = .ok ⟨C.β id, 0 * s'.size + o, none⟩ C.w := by rw [hv]; rfl
              simp only [List.mapM_cons, Sem.run_bind, has, Sem.run_pure, Result.andThen_ok, hrun, h4]
          · exact h.elim
        · exact h.elim
      · exact h.elim
    · exact h.elim

/-- A body that keeps its promise makes a contract. -/
theorem ACalls_of {P : Program} (Γ : Tab P) {f : FuncId} {fn : Func} {code : Code} {dr : List Oper → Fr → List Blk → (Fr → List Blk → Prop) → Prop} (hdr : DrSnd P fn.ntmps dr) {args : List AV} {H : List Blk} {r : AV} {H' : List Blk}
    (hf : P.funcs[f]? = some fn) (hb : fn.body = some code) (hname : (fn.name == "runtime.NumGoroutine") = false) (hn : args.length ≤ fn.ntmps) (ha : args.all AV.noTup = true)
    (h : awp Γ fn.ntmps H.length dr code (bodyQ Γ H.length fn.results.toList r H') (argFr 0 args) H) : ACalls P f args H r H' := by
  refine ⟨⟨fn, hf, by rw [hb]; rfl, hname⟩, fun C hH hC cargs hsz hargs => ?_⟩
  subst hH
  rw [List.all_eq_true] at ha
  refine calls_of_wp hf hb (awp_snd Γ hdr (C0 := C) code _ _ C _ (argFr 0 args) (fun e C1 a fr s h => ?_) ?_ h)
  · have key0 : ∀ (C1 : Ctx) (fr : Fr), St C fn.ntmps C1 a fr → (∃ S, (nodupB S && allGe C.H.length S) = true ∧ ares Γ fr C1.H fn.results.toList fun as => cvsA C.H.length S C1.H as fun vs => cvH C.H.length S C1.H (List.range C.H.length ++ S) fun H'' => LeA (mkRes vs) r ∧ H' = H'') → a.defers = [] ∧ ∃ v, (results fn a.tmps).run P C1.w = .ok v C1.w ∧ (∃ v' C', Ending.returned v = .returned v' ∧ C'.w = C1.w ∧ C'.H = H' ∧ Ext C C' ∧ HRep C' ∧ RT C' v' r) := by
      intro C1 fr s h
      obtain ⟨S, hS, h⟩ := h
      obtain ⟨as, vs, h, h1, h2, h3, h4⟩ := ares_snd Γ s _ _ h
      obtain ⟨as', hvl, hvc, h⟩ := cvsA_det h
      obtain ⟨H'', hHl, hHc, hle, rfl⟩ := cvH_det h
      obtain ⟨C', hw, hH2, hA, hE, hC'⟩ := anew s.ext s.rep hS hHl hHc
      have hres : (results fn a.tmps).run P C1.w = .ok (if h : vs.toArray.size = 1 then vs.toArray[0] else .tuple vs.toArray) C1.w := by
        unfold results
        rw [Sem.run_bind, Array.mapM_eq_mapM_toList, Sem.run_map]
        refine (congrArg (fun z : Result (List Value) => (z.andThen fun a w' => Result.ok a.toArray w').andThen fun a w' => Sem.run P (pure (if h : a.size = 1 then a[0] else Value.tuple a)) w') h4).trans ?_
        rfl
      refine ⟨s.defers, _, hres, _, C', rfl, hw, hH2, hE, hC', RT.le hle ?_⟩
      have hrt : ∀ (i : Nat) (hi : i < as'.length) (hi' : i < vs.length), RA C' vs[i] as'[i] := fun i hi hi' => by
        have := hvc i (by omega) hi
        exact hA.cvA s.rep this ((h3 i (by omega) hi').RA this.nt.1)
      by_cases hone : vs.length = 1
      · have hal : as'.length = 1 := by omega
        obtain ⟨x, rfl⟩ := List.length_eq_one_iff.1 hal
        rw [dif_pos (by simpa using hone)]
        have := hrt 0 (by simp) (by omega)
        have hnt := (hvc 0 (by omega) (by simp)).nt.2
        simp only [List.getElem_cons_zero] at this hnt
        simp only [mkRes, List.getElem_toArray]
        cases x <;> first | exact this | exact absurd rfl (hnt _)
      · rw [dif_neg (by simpa using hone)]
        have hm : mkRes as' = .tup as' := by
          match as', hvl with
          | [], _ => rfl
          | [x], hvl => simp at hvl; omega
          | _ :: _ :: _, _ => rfl
        rw [hm]
        refine ⟨vs.toArray, rfl, by simp; omega, fun i hi => ?_⟩
        have hi' : i < vs.length := by omega
        have := hrt i hi hi'
        simpa [Array.getD_eq_getD_getElem?, hi'] using this
    have key : NRet Γ C.H.length fn.results.toList r H' fr C1.H → a.defers = [] ∧ ∃ v, (results fn a.tmps).run P C1.w = .ok v C1.w ∧ (∃ v' C', Ending.returned v = .returned v' ∧ C'.w = C1.w ∧ C'.H = H' ∧ Ext C C' ∧ HRep C' ∧ RT C' v' r) := by
      intro h
      rcases h with ⟨S, hS, h⟩ | ⟨ad, S, hS, h⟩
      · exact key0 C1 fr s ⟨S, hS, h⟩
      · obtain ⟨fr', C', hw, h, s'⟩ := adopt_snd ad s h
        have := key0 C' fr' s' ⟨S, hS, h⟩
        rw [hw] at this; exact this
    cases e with
    | normal => exact key h
    | exit id => exact h.elim
    | ret => exact key h
  · have hget : ∀ (i : Nat) (l : List AV) (t : Nat), (argFr i l).get t = .undef ∨ (i ≤ t ∧ l[t - i]? = some ((argFr i l).get t)) := by
      intro i l
      induction l generalizing i with
      | nil => intro t; exact .inl rfl
      | cons x r ih =>
        intro t
        simp only [argFr, Fr.get]
        cases hb : Nat.beq i t with
        | true =>
          have := Nat.eq_of_beq_eq_true hb
          subst this
          exact .inr ⟨Nat.le_refl _, by simp⟩
        | false =>
          rcases ih (i + 1) t with h | ⟨h1, h2⟩
          · exact .inl (by simpa using h)
          · refine .inr ⟨by omega, ?_⟩
            have e : t - i = (t - (i + 1)) + 1 := by omega
            rw [e]; simpa using h2
    refine ⟨Ext.refl C hC, hC, fun t => ?_, by simp; omega, rfl⟩
    rcases hget 0 args t with h | ⟨_, h⟩
    · rw [h]; trivial
    · obtain ⟨hlt, he⟩ := List.getElem?_eq_some_iff.1 h
      have := hargs t hlt
      have he : args[t] = (argFr 0 args).get t := he
      rw [he] at this
      have hnt := ha _ (List.getElem_mem (show t < args.length from hlt))
      rw [he] at hnt
      have hv : (cargs ++ Array.replicate (fn.ntmps - cargs.size) undef).getD t undef = cargs.getD t undef := by
        simp only [Array.getD_eq_getD_getElem?]
        rw [Array.getElem?_append_left (by have : t < args.length := hlt; omega)]
      rw [hv]
      generalize (argFr 0 args).get t = x at this hnt
      cases x <;> first | exact this | (simp [AV.noTup] at hnt)

end Go.Bv
