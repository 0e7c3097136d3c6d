/- Part of the lift: an abstract walk of the program's code, proved sound, and what it shows of this program. -/
import Derived.Test.YtkehoabgejdpgaaBvSound
namespace Go.Bv
open Go

/-- A leaf, with the owned blocks' numbers moved. -/
def AV.sh1 (n : Nat) : AV → AV
  | .own id off len => .own (id + n) off len
  | .ptr id i o => .ptr (id + n) i o
  | .map id => .map (id + n)
  | a => a
def AV.shR (n : Nat) : AV → AV
  | .fn f caps => .fn f (caps.map (AV.sh1 n))
  | a => a.sh1 n
def AV.shA (n : Nat) : AV → AV
  | .agg cs => .agg (cs.map (AV.shR n))
  | a => a.shR n
def AV.shT (n : Nat) : AV → AV
  | .tup vs => .tup (vs.map (AV.shA n))
  | a => a.shA n
def Blk.shift (n : Nat) : Blk → Blk
  | .row .box sh es => .row .box sh (es.map (AV.shA n))
  | b => b

theorem Blk.shift_live {n : Nat} {b : Blk} : (b.shift n).live ↔ b.live := by
  cases b with
  | dead => exact Iff.rfl
  | ro sh es => exact Iff.rfl
  | map es => exact Iff.rfl
  | row k sh es => cases k <;> exact Iff.rfl
theorem Blk.shift_row {n : Nat} {b : Blk} {k : RK} {sh : Sh} {es : List AV} (h : b.shift n = .row k sh es) : ∃ es0, b = .row k sh es0 ∧ es.length = es0.length ∧ ((k = .box ∧ es = es0.map (AV.shA n)) ∨ (k ≠ .box ∧ es = es0)) := by
  cases b with
  | dead => simp [Blk.shift] at h
  | ro sh es => simp [Blk.shift] at h
  | map es => simp [Blk.shift] at h
  | row k' sh' es' =>
    cases k' <;> simp only [Blk.shift, Blk.row.injEq] at h <;> obtain ⟨rfl, rfl, rfl⟩ := h
    · exact ⟨_, rfl, by simp, .inl ⟨rfl, rfl⟩⟩
    · exact ⟨_, rfl, rfl, .inr ⟨by simp, rfl⟩⟩
    · exact ⟨_, rfl, rfl, .inr ⟨by simp, rfl⟩⟩
theorem Blk.shift_map {n : Nat} {b : Blk} {es : List (AV × AV)} (h : b.shift n = .map es) : b = .map es := by
  cases b with
  | dead => simp [Blk.shift] at h
  | ro sh es => simp [Blk.shift] at h
  | map es => exact h
  | row k' sh' es' => cases k' <;> simp [Blk.shift] at h
theorem Blk.shift_ro {n : Nat} {b : Blk} {sh : Sh} {es : List AV} (h : b.shift n = .ro sh es) : b = .ro sh es := by
  cases b with
  | dead => simp [Blk.shift] at h
  | ro sh es => exact h
  | map es => simp [Blk.shift] at h
  | row k' sh' es' => cases k' <;> simp [Blk.shift] at h

/-- Can it be read with nothing owned? -/
def AV.low1 : AV → AV
  | .own _ _ _ => .undef
  | .ptr _ _ _ => .undef
  | .map _ => .undef
  | a => a
def AV.lowR : AV → AV
  | .fn f caps => .fn f (caps.map AV.low1)
  | a => a.low1
def AV.lowA : AV → AV
  | .agg cs => .agg (cs.map AV.lowR)
  | a => a.lowR
def AV.low : AV → AV
  | .tup vs => .tup (vs.map AV.lowA)
  | a => a.lowA

/-- What is owned is out of sight. -/
def Ctx.shut (C : Ctx) : Ctx := { w := C.w, F := fun b => C.F b ∨ C.owned b, β := C.β, H := [] }
/-- What a call with nothing owned left, beside what was owned. -/
def Ctx.join (C D : Ctx) : Ctx := { w := D.w, F := C.F, β := fun id => if id < C.H.length then C.β id else D.β (id - C.H.length), H := C.H ++ D.H.map (Blk.shift C.H.length) }

theorem shut_rep {C : Ctx} (hC : HRep C) : HRep C.shut where
  inj := fun i j k m h => by simp [Ctx.shut] at h
  notF := fun i k h => by simp [Ctx.shut] at h
  Flt := fun b h => by
    rcases h with h | ⟨id, k, hk, hl, rfl⟩
    · exact hC.Flt b h
    · exact hC.lt hk hl
  sz := fun i k sh es h => by simp [Ctx.shut] at h
  row := fun i k sh es h => by simp [Ctx.shut] at h
  map := fun i es h => by simp [Ctx.shut] at h

theorem shut_G {C : Ctx} {b : Nat} (h : C.G b) : C.shut.G b := by
  obtain ⟨h1, h2, h3⟩ := h
  refine ⟨h1, fun h => h.elim h2 h3, fun ⟨id, k, hk, _⟩ => by simp [Ctx.shut] at hk⟩

section
variable {C C1 : Ctx}
theorem low_RP (hw : C1.w = C.w) (hG : ∀ b, C.G b → C1.G b) {v : Value} {a : AV} (r : RP C.w C.G v a) : RP C1.w C1.G v a := r.mono fun b hb => ⟨hG b hb, by rw [hw]⟩
theorem low_RL (hw : C1.w = C.w) (hG : ∀ b, C.G b → C1.G b) {v : Value} {a : AV} (r : RL C v a) : RL C1 v a.low1 := by
  cases a <;> simp only [AV.low1] <;> first | exact low_RP hw hG r | trivial | exact r
theorem low_R1 (hw : C1.w = C.w) (hG : ∀ b, C.G b → C1.G b) {v : Value} {a : AV} (r : R1 C v a) : R1 C1 v a.lowR := by
  cases a with
  | fn f caps =>
    obtain ⟨cv, hv, hsz, hc⟩ := r
    exact ⟨cv, hv, by simpa [AV.lowR] using hsz, fun i hi => by
      simp only [List.getElem_map]
      exact low_RL hw hG (hc i (by simpa using hi))⟩
  | _ => simp only [AV.lowR, AV.low1, R1] at r ⊢; first | exact low_RL hw hG r | trivial
theorem low_RA (hw : C1.w = C.w) (hG : ∀ b, C.G b → C1.G b) {v : Value} {a : AV} (r : RA C v a) : RA C1 v a.lowA := by
  cases a with
  | agg cs =>
    obtain ⟨cv, hv, hsz, hc, ho⟩ := r
    exact ⟨cv, hv, by simpa using hsz, fun i hi => by
      simp only [List.getElem_map]
      exact low_R1 hw hG (hc i (by simpa using hi)), ho⟩
  | _ => simp only [AV.lowA, RA] at r ⊢; exact low_R1 hw hG r
theorem low_RT (hw : C1.w = C.w) (hG : ∀ b, C.G b → C1.G b) {v : Value} {a : AV} (r : RT C v a) : RT C1 v a.low := by
  cases a with
  | tup cs =>
    obtain ⟨cv, hv, hsz, hc⟩ := r
    exact ⟨cv, hv, by simpa using hsz, fun i hi => by
      simp only [List.getElem_map]
      exact low_RA hw hG (hc i (by simpa using hi))⟩
  | _ => simp only [AV.low, RT] at r ⊢; exact low_RA hw hG r
end
theorem shut_RA {C : Ctx} {v : Value} {a : AV} (r : RA C v a) : RA C.shut v a.lowA := low_RA (C := C) (C1 := C.shut) rfl (fun _ h => shut_G h) r
theorem shut_RT {C : Ctx} {v : Value} {a : AV} (r : RT C v a) : RT C.shut v a.low := low_RT (C := C) (C1 := C.shut) rfl (fun _ h => shut_G h) r

section
variable {C D : Ctx}

theorem shut_keep (hE : Ext C.shut D) {b : Nat} (hb : b < C.w.heap.size) : D.w.heap[b]? = C.w.heap[b]? := hE.keep b hb (fun ⟨id, k, hk, _⟩ => by simp [Ctx.shut] at hk)
theorem shut_fresh (hE : Ext C.shut D) {id : Nat} {k : Blk} (hk : D.H[id]? = some k) (hl : k.live) : C.w.heap.size ≤ D.β id := by
  rcases hE.fresh id k (by simp [Ctx.shut]) hk hl with h | ⟨id, k, hk, _⟩
  · exact h
  · simp [Ctx.shut] at hk

theorem join_old {id : Nat} (h : id < C.H.length) : (C.join D).H[id]? = C.H[id]? ∧ (C.join D).β id = C.β id := by
  simp only [Ctx.join, List.getElem?_append_left h, if_pos h, and_self]
theorem join_new (id : Nat) : (C.join D).H[id + C.H.length]? = (D.H[id]?).map (Blk.shift C.H.length) ∧ (C.join D).β (id + C.H.length) = D.β id := by
  simp only [Ctx.join]
  rw [List.getElem?_append_right (by omega), if_neg (by omega)]
  simp
theorem join_get {id : Nat} {m : Blk} (h : (C.join D).H[id]? = some m) : (id < C.H.length ∧ C.H[id]? = some m) ∨ ∃ j m0, id = j + C.H.length ∧ D.H[j]? = some m0 ∧ m = m0.shift C.H.length := by
  rcases Nat.lt_or_ge id C.H.length with hid | hid
  · rw [(join_old hid).1] at h; exact .inl ⟨hid, h⟩
  · obtain ⟨j, rfl⟩ : ∃ j, id = j + C.H.length := ⟨id - C.H.length, by omega⟩
    rw [(join_new j).1] at h
    cases hj : D.H[j]? with
    | none => rw [hj] at h; simp at h
    | some m0 => rw [hj] at h; simp at h; exact .inr ⟨j, m0, rfl, hj, h.symm⟩

theorem join_owned (hC : HRep C) (hE : Ext C.shut D) {b : Nat} (h : (C.join D).owned b) : D.F b ∨ D.owned b := by
  obtain ⟨id, m, hm, hl, rfl⟩ := h
  rcases join_get hm with ⟨hid, hm⟩ | ⟨j, m0, rfl, hj, rfl⟩
  · rw [(join_old hid).2, hE.F]; exact .inl (.inr ⟨id, m, hm, hl, rfl⟩)
  · rw [(join_new j).2]; exact .inr ⟨j, m0, hj, Blk.shift_live.1 hl, rfl⟩
theorem join_G (hC : HRep C) (hE : Ext C.shut D) {b : Nat} (h : D.G b) : (C.join D).G b := by
  obtain ⟨h1, h2, h3⟩ := h
  refine ⟨h1, fun hf => h2 (by rw [hE.F]; exact .inl hf), fun ho => (join_owned hC hE ho).elim h2 h3⟩
theorem join_RP (hC : HRep C) (hE : Ext C.shut D) {v : Value} {a : AV} (r : RP D.w D.G v a) : RP (C.join D).w (C.join D).G v a := r.mono fun b hb => ⟨join_G hC hE hb, rfl⟩

theorem join_RL (hC : HRep C) (hE : Ext C.shut D) {v : Value} {a : AV} (r : RL D v a) : RL (C.join D) v (a.sh1 C.H.length) := by
  have hlen : (C.join D).H.length = D.H.length + C.H.length := by simp [Ctx.join]; omega
  cases a with
  | own id off len =>
    obtain ⟨h1, h2, h3, h4, h5⟩ := r
    refine ⟨h1, by omega, fun k sh es he => ?_, fun k sh es he => ?_, fun sh es he => ?_⟩
    rotate_left
    · rw [(join_new id).1] at he
      cases hj : D.H[id]? with
      | none => rw [hj] at he; simp at he
      | some m0 =>
        rw [hj] at he
        obtain ⟨es0, rfl, hl, _⟩ := Blk.shift_row (Option.some.inj he)
        have := h4 k sh es0 hj
        omega
    · rw [(join_new id).1] at he
      cases hj : D.H[id]? with
      | none => rw [hj] at he; simp at he
      | some m0 =>
        rw [hj] at he
        have := Blk.shift_ro (Option.some.inj he)
        subst this
        obtain ⟨g1, g2⟩ := h5 sh es hj
        exact ⟨g1, join_RP hC hE g2⟩
    rw [(join_new id).1] at he
    cases hj : D.H[id]? with
    | none => rw [hj] at he; simp at he
    | some m0 =>
      rw [hj] at he
      obtain ⟨es0, rfl, hl, _⟩ := Blk.shift_row (Option.some.inj he)
      obtain ⟨hn, hy⟩ := h3 k sh es0 hj
      refine ⟨fun hd => hn fun hh => hd (Blk.live_row hl.symm hh), fun hh => ?_⟩
      obtain ⟨cap, hv, hle, hes, hc⟩ := hy (Blk.live_row hl hh)
      rw [(join_new id).2]
      exact ⟨cap, hv, hle, by omega, hc⟩
  | ptr id i o =>
    obtain ⟨h1, h2, h3⟩ := r
    refine ⟨h1, by omega, fun k sh es he => ?_⟩
    rw [(join_new id).1] at he
    cases hj : D.H[id]? with
    | none => rw [hj] at he; simp at he
    | some m0 =>
      rw [hj] at he
      obtain ⟨es0, rfl, hl, _⟩ := Blk.shift_row (Option.some.inj he)
      rw [(join_new id).2]
      exact h3 k sh es0 hj
  | map id =>
    obtain ⟨h1, h2, h3⟩ := r
    refine ⟨h1, by omega, fun es he => ?_⟩
    rw [(join_new id).1] at he
    cases hj : D.H[id]? with
    | none => rw [hj] at he; simp at he
    | some m0 =>
      rw [hj] at he
      have := Blk.shift_map (Option.some.inj he)
      subst this
      rw [(join_new id).2]
      exact h3 es hj
  | undef => trivial
  | fn _ _ => exact r.elim
  | tup _ => exact r.elim
  | agg _ => exact r.elim
  | _ => exact join_RP hC hE r
theorem join_R1 (hC : HRep C) (hE : Ext C.shut D) {v : Value} {a : AV} (r : R1 D v a) : R1 (C.join D) v (a.shR C.H.length) := by
  cases a with
  | fn f caps =>
    obtain ⟨cv, hv, hsz, hc⟩ := r
    exact ⟨cv, hv, by simpa [AV.shR] using hsz, fun i hi => by
      simp only [List.getElem_map]
      exact join_RL hC hE (hc i (by simpa using hi))⟩
  | _ => first | exact join_RL hC hE (a := .bool _) r | exact join_RL hC hE (a := .int _ _) r | exact join_RL hC hE (a := .str _) r | exact join_RL hC hE (a := .nils) r | exact join_RL hC hE (a := .nilfn) r | exact join_RL hC hE (a := .list _ _) r | exact join_RL hC hE (a := .at _ _ _) r | exact join_RL hC hE (a := .own _ _ _) r | exact join_RL hC hE (a := .ptr _ _ _) r | exact join_RL hC hE (a := .map _) r | trivial | exact join_RL hC hE (a := .agg _) r | exact join_RL hC hE (a := .fn _ _) r | exact join_RL hC hE (a := .tup _) r | exact (show False from r).elim
theorem join_RA (hC : HRep C) (hE : Ext C.shut D) {v : Value} {a : AV} (r : RA D v a) : RA (C.join D) v (a.shA C.H.length) := by
  cases a with
  | agg cs =>
    obtain ⟨cv, hv, hsz, hc, ho⟩ := r
    exact ⟨cv, hv, by simpa using hsz, fun i hi => by
      simp only [List.getElem_map]
      exact join_R1 hC hE (hc i (by simpa using hi)), ho⟩
  | _ => first | exact join_R1 hC hE (a := .bool _) r | exact join_R1 hC hE (a := .int _ _) r | exact join_R1 hC hE (a := .str _) r | exact join_R1 hC hE (a := .nils) r | exact join_R1 hC hE (a := .nilfn) r | exact join_R1 hC hE (a := .list _ _) r | exact join_R1 hC hE (a := .at _ _ _) r | exact join_R1 hC hE (a := .own _ _ _) r | exact join_R1 hC hE (a := .ptr _ _ _) r | exact join_R1 hC hE (a := .map _) r | trivial | exact join_R1 hC hE (a := .agg _) r | exact join_R1 hC hE (a := .fn _ _) r | exact join_R1 hC hE (a := .tup _) r | exact (show False from r).elim
theorem join_RT (hC : HRep C) (hE : Ext C.shut D) {v : Value} {a : AV} (r : RT D v a) : RT (C.join D) v (a.shT C.H.length) := by
  cases a with
  | tup cs =>
    obtain ⟨cv, hv, hsz, hc⟩ := r
    exact ⟨cv, hv, by simpa using hsz, fun i hi => by
      simp only [List.getElem_map]
      exact join_RA hC hE (hc i (by simpa using hi))⟩
  | _ => first | exact join_RA hC hE (a := .bool _) r | exact join_RA hC hE (a := .int _ _) r | exact join_RA hC hE (a := .str _) r | exact join_RA hC hE (a := .nils) r | exact join_RA hC hE (a := .nilfn) r | exact join_RA hC hE (a := .list _ _) r | exact join_RA hC hE (a := .at _ _ _) r | exact join_RA hC hE (a := .own _ _ _) r | exact join_RA hC hE (a := .ptr _ _ _) r | exact join_RA hC hE (a := .map _) r | trivial | exact join_RA hC hE (a := .agg _) r | exact join_RA hC hE (a := .fn _ _) r | exact join_RA hC hE (a := .tup _) r | exact (show False from r).elim

theorem join_ext (hC : HRep C) (hE : Ext C.shut D) : Ext C (C.join D) where
  F := rfl
  os := hE.os
  tape := hE.tape
  output := hE.output
  size := hE.size
  len := by simp [Ctx.join]
  beta := fun id hid => (join_old hid).2
  keep := fun b hb _ => shut_keep hE hb
  fresh := fun id k hid hk hl => by
    rcases join_get hk with ⟨h, _⟩ | ⟨j, m0, rfl, hj, rfl⟩
    · omega
    · rw [(join_new j).2]; exact .inl (shut_fresh hE hj (Blk.shift_live.1 hl))
  rows := fun id k sh es hid he => by
    rw [(join_old hid).1] at he
    refine ⟨es, he, rfl, fun hl => ?_⟩
    obtain ⟨c, T, fr, hc, _⟩ := hC.row id k sh es he hl
    exact ⟨c, T, fr, c, T, fr, hc, by rw [← hc]; exact shut_keep hE (hC.lt he hl), rfl⟩
  maps := fun id es hid he => ⟨es, by rw [(join_old hid).1] at he; exact he⟩
  ros := fun id sh es hid he => .inl (by rw [(join_old hid).1] at he; exact he)

theorem join_rep (hC : HRep C) (hE : Ext C.shut D) (hD : HRep D) : HRep (C.join D) where
  inj := fun i j k m hk hm hlk hlm hb => by
    rcases join_get hk with ⟨hi, hk⟩ | ⟨i, k0, rfl, hk0, rfl⟩ <;> rcases join_get hm with ⟨hj, hm⟩ | ⟨j, m0, rfl, hm0, rfl⟩
    · rw [(join_old hi).2, (join_old hj).2] at hb
      exact hC.inj i j k m hk hm hlk hlm hb
    · rw [(join_old hi).2, (join_new j).2] at hb
      have h1 := hC.lt hk hlk
      have h2 := shut_fresh hE hm0 (Blk.shift_live.1 hlm)
      omega
    · rw [(join_new i).2, (join_old hj).2] at hb
      have h1 := hC.lt hm hlm
      have h2 := shut_fresh hE hk0 (Blk.shift_live.1 hlk)
      omega
    · rw [(join_new i).2, (join_new j).2] at hb
      rw [hD.inj i j k0 m0 hk0 hm0 (Blk.shift_live.1 hlk) (Blk.shift_live.1 hlm) hb]
  notF := fun i k hk hl hf => by
    rcases join_get hk with ⟨hi, hk⟩ | ⟨i, k0, rfl, hk0, rfl⟩
    · rw [(join_old hi).2] at hf; exact hC.notF i k hk hl hf
    · rw [(join_new i).2] at hf
      have h1 := hC.Flt _ hf
      have h2 := shut_fresh hE hk0 (Blk.shift_live.1 hl)
      omega
  Flt := fun b hf => Nat.lt_of_lt_of_le (hC.Flt b hf) hE.size
  sz := fun i k sh es he => by
    rcases join_get he with ⟨hi, hk⟩ | ⟨i, k0, rfl, hk0, h0⟩
    · exact hC.sz i k sh es hk
    · obtain ⟨es0, rfl, _, _⟩ := Blk.shift_row h0.symm
      exact hD.sz i k sh es0 hk0
  row := fun i k sh es he hl => by
    have hX := join_ext hC hE
    rcases join_get he with ⟨hi, hk⟩ | ⟨i, k0, rfl, hk0, h0⟩
    · rw [(join_old hi).2]
      obtain ⟨c, T, fr, hc, h1, h2, h3, h4⟩ := hC.row i k sh es hk hl
      refine ⟨c, T, fr, by rw [← hc]; exact shut_keep hE (hC.lt hk hl), h1, h2, h3, fun j hj => ?_⟩
      obtain ⟨v, hv, hp, hs, hcell⟩ := h4 j hj
      exact ⟨v, hX.RA hv, fun hk => hX.RP (hp hk), hs, hcell⟩
    · obtain ⟨es0, rfl, hlen, hes⟩ := Blk.shift_row h0.symm
      rw [(join_new i).2]
      obtain ⟨c, T, fr, hc, h1, h2, h3, h4⟩ := hD.row i k sh es0 hk0 (Blk.live_row hlen hl)
      refine ⟨c, T, fr, hc, h1, by rw [hlen]; exact h2, h3, fun j hj => ?_⟩
      obtain ⟨v, hv, hp, hs, hcell⟩ := h4 j (by omega)
      rcases hes with ⟨rfl, rfl⟩ | ⟨hk, rfl⟩
      · refine ⟨v, ?_, fun hk => absurd rfl hk, hs, hcell⟩
        simp only [List.getElem_map]
        exact join_RA hC hE hv
      · exact ⟨v, (join_RP hC hE (hp hk)).RA, fun _ => join_RP hC hE (hp hk), hs, hcell⟩
  map := fun i es he => by
    have hX := join_ext hC hE
    rcases join_get he with ⟨hi, hk⟩ | ⟨i, k0, rfl, hk0, h0⟩
    · rw [(join_old hi).2]
      obtain ⟨me, cl, hm, hs, h⟩ := hC.map i es hk
      refine ⟨me, cl, by rw [← hm]; exact shut_keep hE (hC.lt hk trivial), hs, fun j hj => ?_⟩
      obtain ⟨m, h1, h2, h3⟩ := h j hj
      exact ⟨m, h1, hX.RP h2, hX.RP h3⟩
    · have := Blk.shift_map h0.symm
      subst this
      rw [(join_new i).2]
      obtain ⟨me, cl, hm, hs, h⟩ := hD.map i es hk0
      refine ⟨me, cl, hm, hs, fun j hj => ?_⟩
      obtain ⟨m, h1, h2, h3⟩ := h j hj
      exact ⟨m, h1, join_RP hC hE h2, join_RP hC hE h3⟩
end

/-- Does a value read with nothing owned? -/
def AV.noOwn1 : AV → Bool
  | .own _ _ _ | .ptr _ _ _ | .map _ => false
  | _ => true
def AV.noOwnR : AV → Bool
  | .fn _ caps => caps.all AV.noOwn1
  | a => a.noOwn1
def AV.noOwn : AV → Bool
  | .agg cs => cs.all AV.noOwnR
  | a => a.noOwnR

theorem low1_eq {a : AV} (h : a.noOwn1 = true) : a.low1 = a := by cases a <;> simp_all [AV.noOwn1, AV.low1]
theorem lowR_eq {a : AV} (h : a.noOwnR = true) : a.lowR = a := by
  cases a with
  | fn f caps =>
    simp only [AV.noOwnR, List.all_eq_true] at h
    simp only [AV.lowR, AV.fn.injEq, true_and]
    exact (List.map_congr_left fun x hx => low1_eq (h x hx)).trans (List.map_id _)
  | _ => first | rfl | simp [AV.noOwnR, AV.noOwn1] at h
theorem lowA_eq {a : AV} (h : a.noOwn = true) : a.lowA = a := by
  cases a with
  | agg cs =>
    simp only [AV.noOwn, List.all_eq_true] at h
    simp only [AV.lowA, AV.agg.injEq]
    exact (List.map_congr_left fun x hx => lowR_eq (h x hx)).trans (List.map_id _)
  | _ => first | exact lowR_eq (a := .bool _) h | exact lowR_eq (a := .int _ _) h | exact lowR_eq (a := .str _) h | exact lowR_eq (a := .nils) h | exact lowR_eq (a := .nilfn) h | exact lowR_eq (a := .list _ _) h | exact lowR_eq (a := .at _ _ _) h | exact lowR_eq (a := .own _ _ _) h | exact lowR_eq (a := .ptr _ _ _) h | exact lowR_eq (a := .map _) h | exact lowR_eq (a := .undef) h | exact lowR_eq (a := .fn _ _) h | exact lowR_eq (a := .tup _) h

/-- A contract that owns nothing holds beside whatever is owned. -/
theorem ACalls.frame {P : Program} {f : FuncId} {args : List AV} {r : AV} {R : List Blk} (h : ACalls P f args [] r R) (ha : args.all AV.noOwn = true) (H : List Blk) :
    ACalls P f args H (r.shT H.length) (H ++ R.map (Blk.shift H.length)) := by
  refine ⟨h.1, fun C hH hC cargs hsz hargs => ?_⟩
  subst hH
  rw [List.all_eq_true] at ha
  refine (h.2 C.shut rfl (shut_rep hC) cargs hsz fun i hi => ?_).mono fun e w' h => ?_
  · have := shut_RA (hargs i hi)
    rwa [lowA_eq (ha _ (List.getElem_mem hi))] at this
  · obtain ⟨v, D, he, hw, rfl, hE, hD, hv⟩ := h
    exact ⟨v, C.join D, he, hw, rfl, join_ext hC hE, join_rep hC hE hD, join_RT hC hE hv⟩

theorem ACalls.le {P : Program} {f : FuncId} {args : List AV} {H H' : List Blk} {r r' : AV} (h : ACalls P f args H r H') (hr : LeA r r') : ACalls P f args H r' H' := by
  refine ⟨h.1, fun C hH hC cargs hsz hargs => (h.2 C hH hC cargs hsz hargs).mono fun e w' h => ?_⟩
  obtain ⟨v, D, he, hw, hH, hE, hD, hv⟩ := h
  exact ⟨v, D, he, hw, hH, hE, hD, hv.le hr⟩

theorem ACalls.args {P : Program} {f : FuncId} {args args' : List AV} {H H' : List Blk} {r : AV} (h : ACalls P f args' H r H') (ha : LeAs args args') : ACalls P f args H r H' := by
  refine ⟨h.1, fun C hH hC cargs hsz hargs => (h.2 C hH hC cargs (by rw [ha.length]; exact hsz) fun i hi => ?_)⟩
  have := hargs i (by rw [← ha.length]; exact hi)
  exact this.le (ha.get i _ hi)

end Go.Bv
