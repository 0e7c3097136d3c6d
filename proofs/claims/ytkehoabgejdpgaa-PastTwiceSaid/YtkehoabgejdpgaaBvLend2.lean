/- Part of the lift: an abstract walk of the program's code, proved sound, and what it shows of this program. -/
import Derived.Test.YtkehoabgejdpgaaBvLend
namespace Go.Bv
open Go

/-- Values of which all memory is owned. -/
def AV.of1 : AV → Bool
  | .own _ _ _ => true
  | a => a.flat1
def AV.ofA : AV → Bool
  | .agg cs => cs.all AV.of1
  | a => a.of1
def AV.ofT : AV → Bool
  | .tup vs => vs.all AV.ofA
  | a => a.ofA
/-- Rows of values without memory. -/
def FlatBlk : Blk → Prop
  | .row kk _ es => kk ≠ .box ∧ ∀ e ∈ es, e.flatA = true
  | _ => False

section
variable {C D : Ctx} {L : Nat → Prop}
theorem lend_fresh (hE : Ext (C.lend L) D) {id : Nat} {k : Blk} (hk : D.H[id]? = some k) (hl : k.live) : C.w.heap.size ≤ D.β id := by
  rcases hE.fresh id k (by simp [Ctx.lend]) hk hl with h | ⟨id, k, hk, _⟩
  · exact h
  · simp [Ctx.lend] at hk

theorem ljoin_ext (hC : HRep C) (hE : Ext (C.lend L) D) : Ext C (C.join D) where
  F := rfl
  os := hE.os
  tape := hE.tape
  output := hE.output
  size := hE.size
  len := by simp [Ctx.join]
  beta := fun id hid => (join_old hid).2
  keep := fun b hb _ => lend_keep hE hb
  fresh := fun id k hid hk hl => by
    rcases join_get hk with ⟨h, _⟩ | ⟨j, m0, rfl, hj, rfl⟩
    · omega
    · rw [(join_new j).2]; exact .inl (lend_fresh hE hj (Blk.shift_live.1 hl))
  rows := fun id k sh es hid he => by
    rw [(join_old hid).1] at he
    refine ⟨es, he, rfl, fun hl => ?_⟩
    obtain ⟨c, T, fr, hc, _⟩ := hC.row id k sh es he hl
    exact ⟨c, T, fr, c, T, fr, hc, by rw [← hc]; exact lend_keep hE (hC.lt he hl), rfl⟩
  maps := fun id es hid he => ⟨es, by rw [(join_old hid).1] at he; exact he⟩
  ros := fun id sh es hid he => .inl (by rw [(join_old hid).1] at he; exact he)

theorem flat_RP {w w' : World} {G G' : Nat → Prop} {v : Value} {a : AV} (h : a.flatA = true) (r : RP w G v a) : RP w' G' v a := by
  have h1 : ∀ {v a}, a.flat1 = true → RP w G v a → RP w' G' v a := by
    intro v a h r
    cases r <;> simp [AV.flat1] at h <;> constructor
  cases a with
  | agg cs =>
    simp only [AV.flatA, List.all_eq_true] at h
    cases r with
    | agg vs _ hsz hr ho => exact .agg vs cs hsz (fun i hi => h1 (h _ (List.getElem_mem hi)) (hr i hi)) ho
  | _ => simp only [AV.flatA] at h; exact h1 h r

theorem ljoin_rep (hC : HRep C) (hE : Ext (C.lend L) D) (hD : HRep D) (hfl : ∀ (id : Nat) (k : Blk), D.H[id]? = some k → FlatBlk k) : HRep (C.join D) where
  inj := fun i j k m hk hm hlk hlm hb => by
    rcases join_get hk with ⟨hi, hk⟩ | ⟨i, k0, rfl, hk0, rfl⟩ <;> rcases join_get hm with ⟨hj, hm⟩ | ⟨j, m0, rfl, hm0, rfl⟩
    · rw [(join_old hi).2, (join_old hj).2] at hb
      exact hC.inj i j k m hk hm hlk hlm hb
    · rw [(join_old hi).2, (join_new j).2] at hb
      have h1 := hC.lt hk hlk
      have h2 := lend_fresh hE hm0 (Blk.shift_live.1 hlm)
      omega
    · rw [(join_new i).2, (join_old hj).2] at hb
      have h1 := hC.lt hm hlm
      have h2 := lend_fresh hE hk0 (Blk.shift_live.1 hlk)
      omega
    · rw [(join_new i).2, (join_new j).2] at hb
      rw [hD.inj i j k0 m0 hk0 hm0 (Blk.shift_live.1 hlk) (Blk.shift_live.1 hlm) hb]
  notF := fun i k hk hl hf => by
    rcases join_get hk with ⟨hi, hk⟩ | ⟨i, k0, rfl, hk0, rfl⟩
    · rw [(join_old hi).2] at hf; exact hC.notF i k hk hl hf
    · rw [(join_new i).2] at hf
      have h1 := hC.Flt _ hf
      have h2 := lend_fresh hE hk0 (Blk.shift_live.1 hl)
      omega
  Flt := fun b hf => Nat.lt_of_lt_of_le (hC.Flt b hf) hE.size
  sz := fun i k sh es he => by
    rcases join_get he with ⟨hi, hk⟩ | ⟨i, k0, rfl, hk0, h0⟩
    · exact hC.sz i k sh es hk
    · obtain ⟨es0, rfl, _, _⟩ := Blk.shift_row h0.symm
      exact hD.sz i k sh es0 hk0
  row := fun i k sh es he hl => by
    have hX := ljoin_ext hC hE
    rcases join_get he with ⟨hi, hk⟩ | ⟨i, k0, rfl, hk0, h0⟩
    · rw [(join_old hi).2]
      obtain ⟨c, T, fr, hc, h1, h2, h3, h4⟩ := hC.row i k sh es hk hl
      refine ⟨c, T, fr, by rw [← hc]; exact lend_keep hE (hC.lt hk hl), h1, h2, h3, fun j hj => ?_⟩
      obtain ⟨v, hv, hp, hs, hcell⟩ := h4 j hj
      exact ⟨v, hX.RA hv, fun hk => hX.RP (hp hk), hs, hcell⟩
    · obtain ⟨es0, rfl, hlen, hes⟩ := Blk.shift_row h0.symm
      obtain ⟨hkk, hfe⟩ := hfl i _ hk0
      rw [(join_new i).2]
      obtain ⟨c, T, fr, hc, h1, h2, h3, h4⟩ := hD.row i k sh es0 hk0 (Blk.live_row hlen hl)
      rcases hes with ⟨rfl, _⟩ | ⟨_, rfl⟩
      · exact absurd rfl hkk
      · refine ⟨c, T, fr, hc, h1, h2, h3, fun j hj => ?_⟩
        obtain ⟨v, hv, hp, hs, hcell⟩ := h4 j hj
        have hf : RP (C.join D).w (C.join D).G v es[j] := flat_RP (hfe _ (List.getElem_mem hj)) (hp hkk)
        exact ⟨v, hf.RA, fun _ => hf, hs, hcell⟩
  map := fun i es he => by
    have hX := ljoin_ext hC hE
    rcases join_get he with ⟨hi, hk⟩ | ⟨i, k0, rfl, hk0, h0⟩
    · rw [(join_old hi).2]
      obtain ⟨me, cl, hm, hs, h⟩ := hC.map i es hk
      refine ⟨me, cl, by rw [← hm]; exact lend_keep hE (hC.lt hk trivial), hs, fun j hj => ?_⟩
      obtain ⟨m, h1, h2, h3⟩ := h j hj
      exact ⟨m, h1, hX.RP h2, hX.RP h3⟩
    · have := Blk.shift_map h0.symm
      subst this
      exact (hfl i _ hk0).elim

theorem ljoin_RL (hfl : ∀ (id : Nat) (k : Blk), D.H[id]? = some k → FlatBlk k) {v : Value} {a : AV} (h : a.of1 = true) (r : RL D v a) : RL (C.join D) v (a.sh1 C.H.length) := by
  have hlen : (C.join D).H.length = D.H.length + C.H.length := by simp [Ctx.join]; omega
  cases a with
  | own id off len =>
    obtain ⟨h1, h2, h3, h4, _⟩ := r
    refine ⟨h1, by omega, fun k sh es he => ?_, fun k sh es he => ?_, fun sh es he => ?_⟩
    rotate_left
    · rw [(join_new id).1] at he
      cases hj : D.H[id]? with
      | none => rw [hj] at he; simp at he
      | some m0 =>
        rw [hj] at he
        obtain ⟨es0, rfl, hl, _⟩ := Blk.shift_row (Option.some.inj he)
        have := h4 k sh es0 hj
        omega
    · rw [(join_new id).1] at he
      cases hj : D.H[id]? with
      | none => rw [hj] at he; simp at he
      | some m0 =>
        rw [hj] at he
        have := Blk.shift_ro (Option.some.inj he)
        subst this
        exact (hfl id _ hj).elim
    rw [(join_new id).1] at he
    cases hj : D.H[id]? with
    | none => rw [hj] at he; simp at he
    | some m0 =>
      rw [hj] at he
      obtain ⟨es0, rfl, hl, _⟩ := Blk.shift_row (Option.some.inj he)
      obtain ⟨hn, hy⟩ := h3 k sh es0 hj
      refine ⟨fun hd => hn fun hh => hd (Blk.live_row hl.symm hh), fun hh => ?_⟩
      obtain ⟨cap, hv, hle, hes, hc⟩ := hy (Blk.live_row hl hh)
      rw [(join_new id).2]
      exact ⟨cap, hv, hle, by omega, hc⟩
  | _ => simp only [AV.of1] at h; first | exact flat_RL (a := _) h r | (simp [AV.flat1] at h)
theorem ljoin_R1 (hfl : ∀ (id : Nat) (k : Blk), D.H[id]? = some k → FlatBlk k) {v : Value} {a : AV} (h : a.of1 = true) (r : R1 D v a) : R1 (C.join D) v (a.shR C.H.length) := by
  cases a with
  | fn _ _ => simp [AV.of1, AV.flat1] at h
  | own _ _ _ => exact ljoin_RL hfl (a := .own _ _ _) h r
  | _ => simp only [AV.of1] at h; first | exact flat_R1 (a := _) h r | (simp [AV.flat1] at h)
theorem ljoin_RA (hfl : ∀ (id : Nat) (k : Blk), D.H[id]? = some k → FlatBlk k) {v : Value} {a : AV} (h : a.ofA = true) (r : RA D v a) : RA (C.join D) v (a.shA C.H.length) := by
  cases a with
  | agg cs =>
    simp only [AV.ofA, List.all_eq_true] at h
    obtain ⟨cv, hv, hsz, hc, ho⟩ := r
    exact ⟨cv, hv, by simpa using hsz, fun i hi => by
      simp only [List.getElem_map]
      exact ljoin_R1 hfl (h _ (List.getElem_mem _)) (hc i (by simpa using hi)), ho⟩
  | own _ _ _ => exact ljoin_R1 hfl (a := .own _ _ _) h r
  | _ => simp only [AV.ofA, AV.of1] at h; first | exact flat_RA (a := _) h r | (simp [AV.flat1] at h)
theorem ljoin_RT (hfl : ∀ (id : Nat) (k : Blk), D.H[id]? = some k → FlatBlk k) {v : Value} {a : AV} (h : a.ofT = true) (r : RT D v a) : RT (C.join D) v (a.shT C.H.length) := by
  cases a with
  | tup cs =>
    simp only [AV.ofT, List.all_eq_true] at h
    obtain ⟨cv, hv, hsz, hc⟩ := r
    exact ⟨cv, hv, by simpa using hsz, fun i hi => by
      simp only [List.getElem_map]
      exact ljoin_RA hfl (h _ (List.getElem_mem _)) (hc i (by simpa using hi))⟩
  | agg _ => exact ljoin_RA hfl (a := .agg _) h r
  | own _ _ _ => exact ljoin_RA hfl (a := .own _ _ _) h r
  | _ => simp only [AV.ofT, AV.ofA, AV.of1] at h; first | exact flat_RT (a := _) h r | (simp [AV.flat1] at h)
end

/-- A contract over lists, asked with owned rows in their place: they stay owned, if all memory of the answer is new. -/
theorem ACalls.lendOwn {P : Program} {f : FuncId} {args args' : List AV} {r : AV} {R : List Blk} (h : ACalls P f args' [] r R) (H : List Blk) (hl : LentAs H (fun _ => True) args args') (ha : args'.all AV.noOwn = true) (hr : r.ofT = true) (hR : ∀ b ∈ R, FlatBlk b) :
    ACalls P f args H (r.shT H.length) (H ++ R.map (Blk.shift H.length)) := by
  refine ⟨h.1, fun C hH hC cargs hsz hargs => ?_⟩
  subst hH
  rw [List.all_eq_true] at ha
  refine (h.2 (C.lend fun _ => True) rfl (lend_rep hC) cargs (by rw [hl.length]; exact hsz) fun i hi => ?_).mono fun e w' h => ?_
  · exact lent_RA hC (C1 := C.lend fun _ => True) rfl (fun _ h => lend_G h) (fun id k hk hlv hL => lend_row hC hk hlv hL) (hl.get i (by rw [← hl.length]; exact hi) hi) (ha _ (List.getElem_mem hi)) (hargs i (by rw [← hl.length]; exact hi))
  · obtain ⟨v, D, he, hw, rfl, hE, hD, hv⟩ := h
    exact ⟨v, C.join D, he, hw, rfl, ljoin_ext hC hE, ljoin_rep hC hE hD (fun id k hk => hR k (List.mem_of_getElem? hk)), ljoin_RT (fun id k hk => hR k (List.mem_of_getElem? hk)) hr hv⟩

/-- The answer's own rows become lists for good. -/
inductive DropT (R : List Blk) : AV → AV → Prop
  | val {a a' : AV} (h : Lent R (fun _ => True) a a') (ha : a'.noOwn = true) (hn : ∀ vs, a ≠ .tup vs) (hn' : ∀ vs, a' ≠ .tup vs) : DropT R a a'
  | tup {l l' : List AV} (h : LentAs R (fun _ => True) l l') (ha : l'.all AV.noOwn = true) : DropT R (.tup l) (.tup l')

theorem ACalls.drop {P : Program} {f : FuncId} {args : List AV} {r r' : AV} {R : List Blk} (h : ACalls P f args [] r R) (hl : DropT R r r') : ACalls P f args [] r' [] := by
  refine ⟨h.1, fun C hH hC cargs hsz hargs => ?_⟩
  refine (h.2 C hH hC cargs hsz hargs).mono fun e w' h => ?_
  obtain ⟨v, D, he, hw, rfl, hE, hD, hv⟩ := h
  have hno : ∀ (id : Nat) (k : Blk), C.H[id]? = some k → False := fun id k hk => by rw [hH] at hk; simp at hk
  have hex : Ext C { D with H := [] } := ⟨hE.F, hE.os, hE.tape, hE.output, hE.size, by rw [hH]; simp, fun id hid => by rw [hH] at hid; simp at hid, hE.keep, fun id k _ hk => by simp at hk, fun id k sh es hid => by rw [hH] at hid; simp at hid, fun id es hid => by rw [hH] at hid; simp at hid, fun id sh es hid => by rw [hH] at hid; simp at hid⟩
  have hrep : HRep { D with H := [] } := ⟨fun i j k m h => by simp at h, fun i k h => by simp at h, hD.Flt, fun i k sh es h => by simp at h, fun i k sh es h => by simp at h, fun i es h => by simp at h⟩
  have hG : ∀ b, D.G b → ({ D with H := [] } : Ctx).G b := fun b ⟨h1, h2, _⟩ => ⟨h1, h2, fun ⟨id, k, hk, _⟩ => by simp at hk⟩
  have hrow : ∀ id k, D.H[id]? = some k → k.live → True → ({ D with H := [] } : Ctx).G (D.β id) := fun id k hk hlv _ => ⟨hD.lt hk hlv, hD.notF id k hk hlv, fun ⟨id, k, hk, _⟩ => by simp at hk⟩
  refine ⟨v, { D with H := [] }, he, hw, rfl, hex, hrep, ?_⟩
  cases hl with
  | val hq ha hn hn' =>
    have h1 : RA D v r := hv.RA hn
    have := lent_RA (C1 := { D with H := [] }) hD rfl hG hrow hq ha h1
    cases r' <;> first | exact this | exact absurd rfl (hn' _)
  | tup hq ha =>
    rw [List.all_eq_true] at ha
    obtain ⟨vs, hv, hsz, hc⟩ := hv
    exact ⟨vs, hv, by rw [hq.length]; exact hsz, fun i hi => lent_RA (C1 := { D with H := [] }) hD rfl hG hrow (hq.get i (by rw [← hq.length]; exact hi) hi) (ha _ (List.getElem_mem hi)) (hc i (by rw [← hq.length]; exact hi))⟩

end Go.Bv
