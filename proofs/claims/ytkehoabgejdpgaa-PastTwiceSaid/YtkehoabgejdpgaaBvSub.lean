/- Part of the lift: an abstract walk of the program's code, proved sound, and what it shows of this program. -/
import Derived.Test.YtkehoabgejdpgaaBvNorm
namespace Go.Bv
open Go

-- names of blocks, given anew
def AV.rn1 (ρ : Nat → Nat) : AV → AV
  | .own id off len => .own (ρ id) off len
  | .ptr id i o => .ptr (ρ id) i o
  | .map id => .map (ρ id)
  | a => a
def AV.rnR (ρ : Nat → Nat) : AV → AV
  | .fn f caps => .fn f (caps.map (AV.rn1 ρ))
  | a => a.rn1 ρ
def AV.rnA (ρ : Nat → Nat) : AV → AV
  | .agg cs => .agg (cs.map (AV.rnR ρ))
  | a => a.rnR ρ
def AV.rnT (ρ : Nat → Nat) : AV → AV
  | .tup vs => .tup (vs.map (AV.rnA ρ))
  | a => a.rnA ρ
def Blk.rn (ρ : Nat → Nat) : Blk → Blk
  | .row .box sh es => .row .box sh (es.map (AV.rnA ρ))
  | b => b

theorem Blk.rn_live {ρ : Nat → Nat} {b : Blk} : (b.rn ρ).live ↔ b.live := by
  cases b with
  | dead => exact Iff.rfl
  | ro sh es => exact Iff.rfl
  | map es => exact Iff.rfl
  | row k sh es => cases k <;> exact Iff.rfl
theorem Blk.rn_row {ρ : Nat → Nat} {b : Blk} {k : RK} {sh : Sh} {es : List AV} (h : b.rn ρ = .row k sh es) : ∃ es0, b = .row k sh es0 ∧ es.length = es0.length ∧ ((k = .box ∧ es = es0.map (AV.rnA ρ)) ∨ (k ≠ .box ∧ es = es0)) := by
  cases b with
  | dead => simp [Blk.rn] at h
  | ro sh es => simp [Blk.rn] at h
  | map es => simp [Blk.rn] at h
  | row k' sh' es' =>
    cases k' <;> simp only [Blk.rn, Blk.row.injEq] at h <;> obtain ⟨rfl, rfl, rfl⟩ := h
    · exact ⟨_, rfl, by simp, .inl ⟨rfl, rfl⟩⟩
    · exact ⟨_, rfl, rfl, .inr ⟨by simp, rfl⟩⟩
    · exact ⟨_, rfl, rfl, .inr ⟨by simp, rfl⟩⟩
theorem Blk.rn_row' {ρ : Nat → Nat} {k : RK} {sh : Sh} {es : List AV} : ∃ es', (Blk.row k sh es).rn ρ = .row k sh es' ∧ es'.length = es.length ∧ (k ≠ .box → es' = es) ∧ (k = .box → es' = es.map (AV.rnA ρ)) := by
  cases k
  · exact ⟨_, rfl, by simp, by simp, fun _ => rfl⟩
  · exact ⟨_, rfl, rfl, fun _ => rfl, by simp⟩
  · exact ⟨_, rfl, rfl, fun _ => rfl, by simp⟩
theorem Blk.rn_map {ρ : Nat → Nat} {b : Blk} {es : List (AV × AV)} (h : b.rn ρ = .map es) : b = .map es := by
  cases b with
  | dead => simp [Blk.rn] at h
  | ro sh es => simp [Blk.rn] at h
  | map es => exact h
  | row k' sh' es' => cases k' <;> simp [Blk.rn] at h
theorem Blk.rn_ro {ρ : Nat → Nat} {b : Blk} {sh : Sh} {es : List AV} (h : b.rn ρ = .ro sh es) : b = .ro sh es := by
  cases b with
  | dead => simp [Blk.rn] at h
  | ro sh es => exact h
  | map es => simp [Blk.rn] at h
  | row k' sh' es' => cases k' <;> simp [Blk.rn] at h

/-- The outer number of a callee's block: those of S come first, new ones go behind all. -/
def rho (S : List Nat) (n : Nat) (i : Nat) : Nat :=
  match S[i]? with
  | some j => j
  | none => i - S.length + n
def setAll : List Blk → List Nat → List Blk → List Blk
  | H, s :: S, b :: R => setAll (H.set s b) S R
  | H, _, _ => H

theorem setAll_len : ∀ (S : List Nat) (R H : List Blk), (setAll H S R).length = H.length
  | [], R, H => by cases R <;> rfl
  | s :: S, [], H => rfl
  | s :: S, b :: R, H => by rw [setAll, setAll_len S R]; simp
theorem setAll_out : ∀ (S : List Nat) (R H : List Blk) (j : Nat), j ∉ S → (setAll H S R)[j]? = H[j]?
  | [], R, H, j, _ => by cases R <;> rfl
  | s :: S, [], H, j, _ => rfl
  | s :: S, b :: R, H, j, h => by
    rw [setAll, setAll_out S R _ j (fun hh => h (List.mem_cons_of_mem _ hh)), List.getElem?_set_ne (fun e => h (by rw [e]; exact List.mem_cons_self ..))]
theorem setAll_in : ∀ (S : List Nat) (R H : List Blk) (i j : Nat), S.Nodup → R.length = S.length → S[i]? = some j → j < H.length → (setAll H S R)[j]? = R[i]?
  | [], R, H, i, j, _, _, h, _ => by simp at h
  | s :: S, [], H, i, j, _, h, _, _ => by simp at h
  | s :: S, b :: R, H, i, j, hn, hl, h, hj => by
    rw [setAll]
    have hn' := List.nodup_cons.1 hn
    cases i with
    | zero =>
      simp only [List.getElem?_cons_zero, Option.some.injEq] at h
      subst h
      rw [setAll_out S R _ s hn'.1]
      simp [hj]
    | succ i =>
      rw [setAll_in S R _ i j hn'.2 (by simpa using hl) (by simpa using h) (by simpa using hj)]
      simp

/-- The blocks of S, and nothing else, are the callee's. -/
def Ctx.sub (C : Ctx) (S : List Nat) (H0 : List Blk) : Ctx := { w := C.w, F := fun b => C.F b ∨ ∃ id k, C.H[id]? = some k ∧ k.live ∧ C.β id = b ∧ id ∉ S, β := fun i => C.β (rho S C.H.length i), H := H0 }

structure Sel (C : Ctx) (S : List Nat) (H0 : List Blk) : Prop where
  nd : S.Nodup
  len : H0.length = S.length
  get : ∀ (i : Nat) (b : Blk), H0[i]? = some b → ∃ j, S[i]? = some j ∧ C.H[j]? = some (b.rn (rho S C.H.length))

section
variable {C : Ctx} {S : List Nat} {H0 : List Blk} (hC : HRep C) (hS : Sel C S H0)
include hS

theorem Sel.at {i : Nat} (hi : i < S.length) : ∃ b, H0[i]? = some b ∧ C.H[S[i]]? = some (b.rn (rho S C.H.length)) ∧ rho S C.H.length i = S[i] := by
  have hi0 : i < H0.length := by rw [hS.len]; exact hi
  obtain ⟨j, hj, hb⟩ := hS.get i H0[i] (List.getElem?_eq_getElem hi0)
  rw [List.getElem?_eq_getElem hi] at hj
  cases hj
  exact ⟨_, List.getElem?_eq_getElem hi0, hb, by simp [rho, List.getElem?_eq_getElem hi]⟩
theorem Sel.lt {j : Nat} (hj : j ∈ S) : j < C.H.length := by
  obtain ⟨i, hi, rfl⟩ := List.mem_iff_getElem.1 hj
  obtain ⟨b, _, h, _⟩ := hS.at hi
  exact (List.getElem?_eq_some_iff.1 h).1
theorem sub_owned {b : Nat} (h : (C.sub S H0).owned b) : C.owned b := by
  obtain ⟨i, k, hk, hl, rfl⟩ := h
  have hi : i < S.length := by rw [← hS.len]; exact (List.getElem?_eq_some_iff.1 hk).1
  obtain ⟨b, h1, h2, h3⟩ := hS.at hi
  have hk : H0[i]? = some k := hk
  rw [h1] at hk; cases hk
  exact ⟨S[i], _, h2, Blk.rn_live.2 hl, by rw [← h3]; rfl⟩
theorem sub_G {b : Nat} (h : C.G b) : (C.sub S H0).G b :=
  ⟨h.1, fun hf => hf.elim h.2.1 fun ⟨id, k, h1, h2, h3, _⟩ => h.2.2 ⟨id, k, h1, h2, h3⟩, fun ho => h.2.2 (sub_owned hS ho)⟩

theorem sub_RP {v : Value} {a : AV} (r : RP C.w C.G v a) : RP (C.sub S H0).w (C.sub S H0).G v a := r.mono fun b hb => ⟨sub_G hS hb, rfl⟩
theorem sub_RL {v : Value} {a : AV} (r : RL C v (a.rn1 (rho S C.H.length))) : RL (C.sub S H0) v a := by
  have small : ∀ {id : Nat}, rho S C.H.length id < C.H.length → id < S.length := by
    intro id h
    unfold rho at h
    split at h
    · rename_i hj; exact (List.getElem?_eq_some_iff.1 hj).1
    · omega
  cases a with
  | own id off len =>
    obtain ⟨h1, h2, h3, h4, h5⟩ := r
    have hid := small h2
    obtain ⟨b, g1, g2, g3⟩ := hS.at hid
    refine ⟨h1, by show id < H0.length; rw [hS.len]; exact hid, fun k sh es he => ?_, fun k sh es he => ?_, fun sh es he => ?_⟩
    · have he : H0[id]? = some (.row k sh es) := he
      rw [g1] at he; cases he
      obtain ⟨es', e1, e2, _, _⟩ := Blk.rn_row' (ρ := rho S C.H.length) (k := k) (sh := sh) (es := es)
      obtain ⟨hn, hl⟩ := h3 k sh es' (by rw [g3, g2, e1])
      refine ⟨fun hd => hn fun hh => hd (Blk.live_row e2 hh), fun hh => ?_⟩
      obtain ⟨cap, q1, q2, q3, q4⟩ := hl (Blk.live_row e2.symm hh)
      exact ⟨cap, q1, q2, by omega, q4⟩
    · have he : H0[id]? = some (.row k sh es) := he
      rw [g1] at he; cases he
      obtain ⟨es', e1, e2, _, _⟩ := Blk.rn_row' (ρ := rho S C.H.length) (k := k) (sh := sh) (es := es)
      have := h4 k sh es' (by rw [g3, g2, e1])
      omega
    · have he : H0[id]? = some (.ro sh es) := he
      rw [g1] at he; cases he
      obtain ⟨q1, q2⟩ := h5 sh es (by rw [g3, g2]; rfl)
      exact ⟨q1, sub_RP hS q2⟩
  | ptr id i o =>
    obtain ⟨h1, h2, h3⟩ := r
    have hid := small h2
    obtain ⟨b, g1, g2, g3⟩ := hS.at hid
    refine ⟨h1, by show id < H0.length; rw [hS.len]; exact hid, fun k sh es he => ?_⟩
    have he : H0[id]? = some (.row k sh es) := he
    rw [g1] at he; cases he
    obtain ⟨es', e1, e2, _, _⟩ := Blk.rn_row' (ρ := rho S C.H.length) (k := k) (sh := sh) (es := es)
    exact h3 k sh es' (by rw [g3, g2, e1])
  | map id =>
    obtain ⟨h1, h2, h3⟩ := r
    have hid := small h2
    obtain ⟨b, g1, g2, g3⟩ := hS.at hid
    refine ⟨h1, by show id < H0.length; rw [hS.len]; exact hid, fun es he => ?_⟩
    have he : H0[id]? = some (.map es) := he
    rw [g1] at he; cases he
    exact h3 es (by rw [g3, g2]; rfl)
  | undef => trivial
  | fn _ _ => exact (show False from r).elim
  | tup _ => exact (show False from r).elim
  | agg _ => exact (show False from r).elim
  | _ => exact sub_RP hS r
theorem sub_R1 {v : Value} {a : AV} (r : R1 C v (a.rnR (rho S C.H.length))) : R1 (C.sub S H0) v a := by
  cases a with
  | fn f caps =>
    obtain ⟨cv, hv, hsz, hc⟩ := r
    refine ⟨cv, hv, by simpa using hsz, fun i hi => sub_RL hS ?_⟩
    have := hc i (by simpa using hi)
    simpa using this
  | own a b c => exact sub_RL hS (a := .own a b c) r
  | ptr a b c => exact sub_RL hS (a := .ptr a b c) r
  | map a => exact sub_RL hS (a := .map a) r
  | undef => trivial
  | tup _ => exact (show False from r).elim
  | agg _ => exact (show False from r).elim
  | _ => exact sub_RP hS r
theorem sub_RA {v : Value} {a : AV} (r : RA C v (a.rnA (rho S C.H.length))) : RA (C.sub S H0) v a := by
  cases a with
  | agg cs =>
    obtain ⟨vs, hv, hsz, hc, ho⟩ := r
    refine ⟨vs, hv, by simpa using hsz, fun i hi => sub_R1 hS ?_, ho⟩
    have := hc i (by simpa using hi)
    simpa using this
  | fn f caps => exact sub_R1 hS (a := .fn f caps) r
  | own a b c => exact sub_R1 hS (a := .own a b c) r
  | ptr a b c => exact sub_R1 hS (a := .ptr a b c) r
  | map a => exact sub_R1 hS (a := .map a) r
  | undef => trivial
  | tup _ => exact (show False from r).elim
  | _ => exact sub_RP hS r

include hC
theorem sub_rep : HRep (C.sub S H0) := by
  have blk : ∀ {i : Nat} {k : Blk}, (C.sub S H0).H[i]? = some k → ∃ hi : i < S.length, C.H[S[i]]? = some (k.rn (rho S C.H.length)) ∧ (C.sub S H0).β i = C.β S[i] := by
    intro i k hk
    have hk : H0[i]? = some k := hk
    have hi : i < S.length := by rw [← hS.len]; exact (List.getElem?_eq_some_iff.1 hk).1
    obtain ⟨b, h1, h2, h3⟩ := hS.at hi
    rw [h1] at hk; cases hk
    exact ⟨hi, h2, by show C.β (rho S C.H.length i) = _; rw [h3]⟩
  refine ⟨fun i j k m hk hm hlk hlm hb => ?_, fun i k hk hl hf => ?_, fun b hb => ?_, fun i k sh es he => ?_, fun i k sh es he hl => ?_, fun i es he => ?_⟩
  · obtain ⟨hi, h1, h2⟩ := blk hk
    obtain ⟨hj, h3, h4⟩ := blk hm
    rw [h2, h4] at hb
    exact (List.getElem_inj hS.nd).1 (hC.inj _ _ _ _ h1 h3 (Blk.rn_live.2 hlk) (Blk.rn_live.2 hlm) hb)
  · obtain ⟨hi, h1, h2⟩ := blk hk
    rw [h2] at hf
    rcases hf with hf | ⟨id, m, hm, hml, hb, hn⟩
    · exact hC.notF _ _ h1 (Blk.rn_live.2 hl) hf
    · have := hC.inj _ _ _ _ hm h1 hml (Blk.rn_live.2 hl) hb
      exact hn (this ▸ List.getElem_mem hi)
  · rcases hb with h | ⟨id, k, hk, hl, rfl, _⟩
    · exact hC.Flt b h
    · exact hC.lt hk hl
  · obtain ⟨hi, h1, h2⟩ := blk he
    obtain ⟨es', e1, _⟩ := Blk.rn_row' (ρ := rho S C.H.length) (k := k) (sh := sh) (es := es)
    rw [e1] at h1
    exact hC.sz _ _ _ _ h1
  · obtain ⟨hi, h1, h2⟩ := blk he
    obtain ⟨es', e1, e2, e3, e4⟩ := Blk.rn_row' (ρ := rho S C.H.length) (k := k) (sh := sh) (es := es)
    rw [e1] at h1
    obtain ⟨c, T, fr, hc, q1, q2, q3, q4⟩ := hC.row _ k sh es' h1 (Blk.live_row e2.symm hl)
    refine ⟨c, T, fr, by rw [h2]; exact hc, q1, by rw [← e2]; exact q2, q3, fun j hj => ?_⟩
    obtain ⟨v, r1, r2, r3, r4⟩ := q4 j (by rw [e2]; exact hj)
    refine ⟨v, ?_, fun hk => ?_, r3, r4⟩
    · by_cases hk : k = .box
      · have e5 := e4 hk
        subst e5
        exact sub_RA hS (by simpa using r1)
      · have e5 := e3 hk
        subst e5
        exact (sub_RP hS (r2 hk)).RA
    · have e5 := e3 hk
      subst e5
      exact sub_RP hS (r2 hk)
  · obtain ⟨hi, h1, h2⟩ := blk he
    obtain ⟨me, cl, hm, q1, q2⟩ := hC.map _ es h1
    refine ⟨me, cl, by rw [h2]; exact hm, q1, fun j hj => ?_⟩
    obtain ⟨m, r1, r2, r3⟩ := q2 j hj
    exact ⟨m, r1, sub_RP hS r2, sub_RP hS r3⟩
end

/-- What the callee left, beside what was not its own. -/
def Ctx.back (C : Ctx) (S : List Nat) (D : Ctx) : Ctx :=
  { w := D.w, F := C.F, β := fun j => if j < C.H.length then C.β j else D.β (j - C.H.length + S.length),
    H := setAll C.H S ((D.H.take S.length).map (Blk.rn (rho S C.H.length))) ++ (D.H.drop S.length).map (Blk.rn (rho S C.H.length)) }

section
variable {C D : Ctx} {S : List Nat} {H0 : List Blk} (hC : HRep C) (hS : Sel C S H0) (hE : Ext (C.sub S H0) D)
include hS hE

theorem back_len : S.length ≤ D.H.length := by have := hE.len; have e : (C.sub S H0).H = H0 := rfl; rw [e, hS.len] at this; exact this
/-- A callee's block, from outside. -/
theorem back_in {i : Nat} (hi : i < D.H.length) : (C.back S D).H[rho S C.H.length i]? = (D.H[i]?).map (Blk.rn (rho S C.H.length)) ∧ (C.back S D).β (rho S C.H.length i) = D.β i ∧ rho S C.H.length i < (C.back S D).H.length := by
  have hle := back_len hS hE
  have hsl : (setAll C.H S ((D.H.take S.length).map (Blk.rn (rho S C.H.length)))).length = C.H.length := setAll_len _ _ _
  have hbl : (C.back S D).H.length = C.H.length + (D.H.length - S.length) := by simp only [Ctx.back, List.length_append, hsl, List.length_map, List.length_drop]
  by_cases h : i < S.length
  · obtain ⟨b, h1, h2, h3⟩ := hS.at h
    have hj := hS.lt (List.getElem_mem h)
    rw [h3]
    refine ⟨?_, ?_, by rw [hbl]; omega⟩
    · show (_ ++ _)[S[i]]? = _
      rw [List.getElem?_append_left (by rw [hsl]; exact hj), setAll_in S _ C.H i S[i] hS.nd (by simp; omega) (List.getElem?_eq_getElem h) hj]
      rw [List.getElem?_map, List.getElem?_take_of_lt h]
    · show (if S[i] < C.H.length then C.β S[i] else _) = _
      rw [if_pos hj]
      have := hE.beta i (by show i < H0.length; rw [hS.len]; exact h)
      rw [this]
      show _ = C.β (rho S C.H.length i)
      rw [h3]
  · have hr : rho S C.H.length i = i - S.length + C.H.length := by
      unfold rho; rw [List.getElem?_eq_none (by omega)]
    rw [hr]
    refine ⟨?_, ?_, by rw [hbl]; omega⟩
    · show (_ ++ _)[_]? = _
      rw [List.getElem?_append_right (by rw [hsl]; omega), hsl, List.getElem?_map, List.getElem?_drop]
      congr 2; omega
    · show (if _ < C.H.length then _ else _) = _
      rw [if_neg (by omega)]
      congr 1; omega
/-- A block from outside: it was not the callee's, or it is. -/
theorem back_get {j : Nat} {m : Blk} (h : (C.back S D).H[j]? = some m) : (j < C.H.length ∧ j ∉ S ∧ C.H[j]? = some m ∧ (C.back S D).β j = C.β j) ∨ ∃ i m0, i < D.H.length ∧ j = rho S C.H.length i ∧ D.H[i]? = some m0 ∧ m = m0.rn (rho S C.H.length) ∧ (C.back S D).β j = D.β i := by
  have hle := back_len hS hE
  have hsl : (setAll C.H S ((D.H.take S.length).map (Blk.rn (rho S C.H.length)))).length = C.H.length := setAll_len _ _ _
  have hbl : (C.back S D).H.length = C.H.length + (D.H.length - S.length) := by simp only [Ctx.back, List.length_append, hsl, List.length_map, List.length_drop]
  have hjl := (List.getElem?_eq_some_iff.1 h).1
  have inner : ∀ i, i < D.H.length → j = rho S C.H.length i → ∃ i m0, i < D.H.length ∧ j = rho S C.H.length i ∧ D.H[i]? = some m0 ∧ m = m0.rn (rho S C.H.length) ∧ (C.back S D).β j = D.β i := by
    intro i hi e
    obtain ⟨h1, h2, _⟩ := back_in hS hE hi
    rw [← e] at h1 h2
    rw [h, List.getElem?_eq_getElem hi] at h1
    exact ⟨i, D.H[i], hi, e, List.getElem?_eq_getElem hi, by simpa using h1, h2⟩
  by_cases hjs : j ∈ S
  · obtain ⟨i, hi, rfl⟩ := List.mem_iff_getElem.1 hjs
    obtain ⟨_, _, _, h3⟩ := hS.at hi
    exact .inr (inner i (by omega) h3.symm)
  · by_cases hj : j < C.H.length
    · refine .inl ⟨hj, hjs, ?_, by show (if j < C.H.length then _ else _) = _; rw [if_pos hj]⟩
      have h : (_ ++ _)[j]? = some m := h
      rw [List.getElem?_append_left (by rw [hsl]; exact hj), setAll_out _ _ _ _ hjs] at h
      exact h
    · refine .inr (inner (j - C.H.length + S.length) (by omega) ?_)
      unfold rho; rw [List.getElem?_eq_none (by omega)]; simp only; omega

include hC
theorem back_fresh {i : Nat} {k : Blk} (hk : D.H[i]? = some k) (hl : k.live) : C.w.heap.size ≤ D.β i ∨ C.owned (D.β i) := by
  have _ := hC
  by_cases h : i < S.length
  · obtain ⟨k0, h0, hl0⟩ := hE.live (id := i) (by show i < H0.length; rw [hS.len]; exact h) hk hl
    obtain ⟨b, h1, h2, h3⟩ := hS.at h
    have h0 : H0[i]? = some k0 := h0
    rw [h1] at h0; cases h0
    refine .inr ⟨S[i], _, h2, Blk.rn_live.2 hl0, ?_⟩
    rw [hE.beta i (by show i < H0.length; rw [hS.len]; exact h)]
    show _ = C.β (rho S C.H.length i)
    rw [h3]
  · rcases hE.fresh i k (by show H0.length ≤ i; rw [hS.len]; omega) hk hl with h1 | h1
    · exact .inl h1
    · exact .inr (sub_owned hS h1)
/-- A block that is not the callee's is not among the callee's. -/
theorem back_apart {j : Nat} {k : Blk} (hj : j ∉ S) (hk : C.H[j]? = some k) (hl : k.live) {i : Nat} {m : Blk} (hm : D.H[i]? = some m) (hml : m.live) : C.β j ≠ D.β i := by
  intro e
  have key : ∀ i', i' < S.length → ∀ b, H0[i']? = some b → b.live → C.β S[i']! = C.β j → False := by
    intro i' hi' b hb hbl he
    obtain ⟨b', h1, h2, h3⟩ := hS.at hi'
    rw [h1] at hb; cases hb
    rw [getElem!_pos S i' hi'] at he
    have := hC.inj _ _ _ _ h2 hk (Blk.rn_live.2 hbl) hl he
    exact hj (this ▸ List.getElem_mem hi')
  by_cases h : i < S.length
  · obtain ⟨k0, h0, hl0⟩ := hE.live (id := i) (by show i < H0.length; rw [hS.len]; exact h) hm hml
    refine key i h k0 h0 hl0 ?_
    rw [getElem!_pos S i h, e, hE.beta i (by show i < H0.length; rw [hS.len]; exact h)]
    show _ = C.β (rho S C.H.length i)
    rw [(hS.at h).choose_spec.2.2]
  · rcases hE.fresh i m (by show H0.length ≤ i; rw [hS.len]; omega) hm hml with h1 | ⟨i', k', hk', hl', hb'⟩
    · have := hC.lt hk hl
      have h1 : C.w.heap.size ≤ D.β i := h1
      omega
    · have hk' : H0[i']? = some k' := hk'
      have hi' : i' < S.length := by rw [← hS.len]; exact (List.getElem?_eq_some_iff.1 hk').1
      refine key i' hi' k' hk' hl' ?_
      rw [getElem!_pos S i' hi', e, ← hb']
      show _ = C.β (rho S C.H.length i')
      rw [(hS.at hi').choose_spec.2.2]
theorem back_G {b : Nat} (h : D.G b) : (C.back S D).G b := by
  have _ := hC
  obtain ⟨h1, h2, h3⟩ := h
  refine ⟨h1, fun hf => h2 (by rw [hE.F]; exact .inl hf), fun ⟨j, m, hm, hl, hb⟩ => ?_⟩
  rcases back_get hS hE hm with ⟨g1, g2, g3, g4⟩ | ⟨i, m0, g1, g2, g3, rfl, g4⟩
  · exact h2 (by rw [hE.F]; exact .inr ⟨j, m, g3, hl, by rw [← g4]; exact hb, g2⟩)
  · exact h3 ⟨i, m0, g3, Blk.rn_live.1 hl, by rw [← g4]; exact hb⟩
theorem back_RP {v : Value} {a : AV} (r : RP D.w D.G v a) : RP (C.back S D).w (C.back S D).G v a := r.mono fun b hb => ⟨back_G hC hS hE hb, rfl⟩
theorem back_RL {v : Value} {a : AV} (r : RL D v a) : RL (C.back S D) v (a.rn1 (rho S C.H.length)) := by
  cases a with
  | own id off len =>
    obtain ⟨h1, h2, h3, h4, h5⟩ := r
    obtain ⟨g1, g2, g3⟩ := back_in hS hE h2
    refine ⟨h1, g3, fun k sh es he => ?_, fun k sh es he => ?_, fun sh es he => ?_⟩
    all_goals
      rw [g1, List.getElem?_eq_getElem h2] at he
      simp only [Option.map_some, Option.some.injEq] at he
    · obtain ⟨es0, e1, e2, _⟩ := Blk.rn_row he
      obtain ⟨hn, hy⟩ := h3 k sh es0 (by rw [List.getElem?_eq_getElem h2, e1])
      refine ⟨fun hd => hn fun hh => hd (Blk.live_row e2.symm hh), fun hh => ?_⟩
      obtain ⟨cap, q1, q2, q3, q4⟩ := hy (Blk.live_row e2 hh)
      rw [g2]
      exact ⟨cap, q1, q2, by omega, q4⟩
    · obtain ⟨es0, e1, e2, _⟩ := Blk.rn_row he
      have := h4 k sh es0 (by rw [List.getElem?_eq_getElem h2, e1])
      omega
    · have e1 := Blk.rn_ro he
      obtain ⟨q1, q2⟩ := h5 sh es (by rw [List.getElem?_eq_getElem h2, e1])
      exact ⟨q1, back_RP hC hS hE q2⟩
  | ptr id i o =>
    obtain ⟨h1, h2, h3⟩ := r
    obtain ⟨g1, g2, g3⟩ := back_in hS hE h2
    refine ⟨h1, g3, fun k sh es he => ?_⟩
    rw [g1, List.getElem?_eq_getElem h2] at he
    simp only [Option.map_some, Option.some.injEq] at he
    obtain ⟨es0, e1, e2, _⟩ := Blk.rn_row he
    rw [g2]
    exact h3 k sh es0 (by rw [List.getElem?_eq_getElem h2, e1])
  | map id =>
    obtain ⟨h1, h2, h3⟩ := r
    obtain ⟨g1, g2, g3⟩ := back_in hS hE h2
    refine ⟨h1, g3, fun es he => ?_⟩
    rw [g1, List.getElem?_eq_getElem h2] at he
    simp only [Option.map_some, Option.some.injEq] at he
    rw [g2]
    exact h3 es (by rw [List.getElem?_eq_getElem h2, Blk.rn_map he])
  | undef => trivial
  | fn _ _ => exact r.elim
  | tup _ => exact r.elim
  | agg _ => exact r.elim
  | _ => exact back_RP hC hS hE r
theorem back_R1 {v : Value} {a : AV} (r : R1 D v a) : R1 (C.back S D) v (a.rnR (rho S C.H.length)) := by
  cases a with
  | fn f caps =>
    obtain ⟨cv, hv, hsz, hc⟩ := r
    exact ⟨cv, hv, by simpa using hsz, fun i hi => by
      simp only [List.getElem_map]
      exact back_RL hC hS hE (hc i (by simpa using hi))⟩
  | own a b c => exact back_RL hC hS hE (a := .own a b c) r
  | ptr a b c => exact back_RL hC hS hE (a := .ptr a b c) r
  | map a => exact back_RL hC hS hE (a := .map a) r
  | undef => trivial
  | tup _ => exact (show False from r).elim
  | agg _ => exact (show False from r).elim
  | _ => exact back_RP hC hS hE r
theorem back_RA {v : Value} {a : AV} (r : RA D v a) : RA (C.back S D) v (a.rnA (rho S C.H.length)) := by
  cases a with
  | agg cs =>
    obtain ⟨vs, hv, hsz, hc, ho⟩ := r
    exact ⟨vs, hv, by simpa using hsz, fun i hi => by
      simp only [List.getElem_map]
      exact back_R1 hC hS hE (hc i (by simpa using hi)), ho⟩
  | fn f caps => exact back_R1 hC hS hE (a := .fn f caps) r
  | own a b c => exact back_R1 hC hS hE (a := .own a b c) r
  | ptr a b c => exact back_R1 hC hS hE (a := .ptr a b c) r
  | map a => exact back_R1 hC hS hE (a := .map a) r
  | undef => trivial
  | tup _ => exact (show False from r).elim
  | _ => exact back_RP hC hS hE r
theorem back_RT {v : Value} {a : AV} (r : RT D v a) : RT (C.back S D) v (a.rnT (rho S C.H.length)) := by
  cases a with
  | tup cs =>
    obtain ⟨vs, hv, hsz, hc⟩ := r
    exact ⟨vs, hv, by simpa using hsz, fun i hi => by
      simp only [List.getElem_map]
      exact back_RA hC hS hE (hc i (by simpa using hi))⟩
  | agg cs => exact back_RA hC hS hE (a := .agg cs) r
  | fn f caps => exact back_RA hC hS hE (a := .fn f caps) r
  | own a b c => exact back_RA hC hS hE (a := .own a b c) r
  | ptr a b c => exact back_RA hC hS hE (a := .ptr a b c) r
  | map a => exact back_RA hC hS hE (a := .map a) r
  | undef => trivial
  | _ => exact back_RP hC hS hE r

theorem back_heap {j : Nat} {k : Blk} (hj : j ∉ S) (hk : C.H[j]? = some k) (hl : k.live) : D.w.heap[C.β j]? = C.w.heap[C.β j]? := by
  refine hE.keep _ (hC.lt hk hl) fun ⟨i, m, hm, hml, hb⟩ => ?_
  have hm : H0[i]? = some m := hm
  have hi : i < S.length := by rw [← hS.len]; exact (List.getElem?_eq_some_iff.1 hm).1
  obtain ⟨b, h1, h2, h3⟩ := hS.at hi
  rw [h1] at hm; cases hm
  have hb : C.β (rho S C.H.length i) = C.β j := hb
  rw [h3] at hb
  have := hC.inj _ _ _ _ h2 hk (Blk.rn_live.2 hml) hl hb
  exact hj (this ▸ List.getElem_mem hi)

theorem back_ext : Ext C (C.back S D) where
  F := rfl
  os := hE.os
  tape := hE.tape
  output := hE.output
  size := hE.size
  len := by
    simp only [Ctx.back, List.length_append, setAll_len]; omega
  beta := fun id hid => by show (if id < C.H.length then _ else _) = _; rw [if_pos hid]
  keep := fun b hb ho => hE.keep b hb fun h => ho (sub_owned hS h)
  fresh := fun j k hj hk hl => by
    rcases back_get hS hE hk with ⟨g1, _⟩ | ⟨i, m0, g1, g2, g3, rfl, g4⟩
    · omega
    · rw [g4]; exact back_fresh hC hS hE g3 (Blk.rn_live.1 hl)
  rows := fun j k sh es hj he => by
    rcases back_get hS hE he with ⟨g1, g2, g3, g4⟩ | ⟨i, m0, g1, g2, g3, g5, g4⟩
    · refine ⟨es, g3, rfl, fun hl => ?_⟩
      obtain ⟨c, T, fr, hc, _⟩ := hC.row j k sh es g3 hl
      exact ⟨c, T, fr, c, T, fr, hc, by rw [← hc]; exact back_heap hC hS hE g2 g3 hl, rfl⟩
    · have hi : i < S.length := by
        rcases Nat.lt_or_ge i S.length with h | h
        · exact h
        · exfalso
          unfold rho at g2; rw [List.getElem?_eq_none h] at g2; simp only at g2; omega
      obtain ⟨es0, e1, e2, _⟩ := Blk.rn_row g5.symm
      subst e1
      obtain ⟨es1, q1, q2, q3⟩ := hE.rows i k sh es0 (by show i < H0.length; rw [hS.len]; exact hi) g3
      obtain ⟨b, h1, h2, h3⟩ := hS.at hi
      have q1 : H0[i]? = some _ := q1
      rw [h1] at q1; cases q1
      obtain ⟨es2, f1, f2, _⟩ := Blk.rn_row' (ρ := rho S C.H.length) (k := k) (sh := sh) (es := es1)
      refine ⟨es2, by rw [g2, h3, h2, f1], by omega, fun hl => ?_⟩
      obtain ⟨c, T, fr, c', T', fr', hc, hc', hs⟩ := q3 (Blk.live_row e2 hl)
      have hb : (C.sub S H0).β i = C.β j := by show C.β (rho S C.H.length i) = _; rw [← g2]
      rw [hb] at hc hc'
      exact ⟨c, T, fr, c', T', fr', hc, hc', hs⟩
  maps := fun j es hj he => by
    rcases back_get hS hE he with ⟨g1, g2, g3, g4⟩ | ⟨i, m0, g1, g2, g3, g5, g4⟩
    · exact ⟨es, g3⟩
    · have hi : i < S.length := by
        rcases Nat.lt_or_ge i S.length with h | h
        · exact h
        · exfalso
          unfold rho at g2; rw [List.getElem?_eq_none h] at g2; simp only at g2; omega
      have e1 := Blk.rn_map g5.symm
      subst e1
      obtain ⟨es1, q1⟩ := hE.maps i es (by show i < H0.length; rw [hS.len]; exact hi) g3
      obtain ⟨b, h1, h2, h3⟩ := hS.at hi
      have q1 : H0[i]? = some _ := q1
      rw [h1] at q1; cases q1
      exact ⟨es1, by rw [g2, h3, h2]; rfl⟩
  ros := fun j sh es hj he => by
    rcases back_get hS hE he with ⟨g1, g2, g3, g4⟩ | ⟨i, m0, g1, g2, g3, g5, g4⟩
    · exact .inl g3
    · have hi : i < S.length := by
        rcases Nat.lt_or_ge i S.length with h | h
        · exact h
        · exfalso
          unfold rho at g2; rw [List.getElem?_eq_none h] at g2; simp only at g2; omega
      have e1 := Blk.rn_ro g5.symm
      subst e1
      obtain ⟨b, h1, h2, h3⟩ := hS.at hi
      rcases hE.ros i sh es (by show i < H0.length; rw [hS.len]; exact hi) g3 with q1 | ⟨k, es0, q1, q2, q3⟩
      · have q1 : H0[i]? = some _ := q1
        rw [h1] at q1; cases q1
        exact .inl (by rw [g2, h3, h2]; rfl)
      · have q1 : H0[i]? = some _ := q1
        rw [h1] at q1; cases q1
        obtain ⟨es2, f1, f2, _⟩ := Blk.rn_row' (ρ := rho S C.H.length) (k := k) (sh := sh) (es := es0)
        refine .inr ⟨k, es2, by rw [g2, h3, h2, f1], by omega, fun hl => ?_⟩
        have := q3 (Blk.live_row f2 hl)
        have hb : (C.sub S H0).β i = C.β j := by show C.β (rho S C.H.length i) = _; rw [← g2]
        rw [hb] at this
        exact this.mono fun b hb => ⟨back_G hC hS hE hb, rfl⟩

theorem back_rep (hD : HRep D) : HRep (C.back S D) := by
  have hX := back_ext hC hS hE
  refine ⟨fun i j k m hk hm hlk hlm hb => ?_, fun i k hk hl hf => ?_, fun b hf => Nat.lt_of_lt_of_le (hC.Flt b hf) hE.size, fun i k sh es he => ?_, fun i k sh es he hl => ?_, fun i es he => ?_⟩
  · rcases back_get hS hE hk with ⟨g1, g2, g3, g4⟩ | ⟨i, m0, g1, rfl, g3, rfl, g4⟩ <;> rcases back_get hS hE hm with ⟨f1, f2, f3, f4⟩ | ⟨j, m1, f1, rfl, f3, rfl, f4⟩
    · rw [g4, f4] at hb; exact hC.inj i j k m g3 f3 hlk hlm hb
    · rw [g4, f4] at hb; exact absurd hb (back_apart hC hS hE g2 g3 hlk f3 (Blk.rn_live.1 hlm))
    · rw [g4, f4] at hb; exact absurd hb.symm (back_apart hC hS hE f2 f3 hlm g3 (Blk.rn_live.1 hlk))
    · rw [g4, f4] at hb
      rw [hD.inj i j m0 m1 g3 f3 (Blk.rn_live.1 hlk) (Blk.rn_live.1 hlm) hb]
  · rcases back_get hS hE hk with ⟨g1, g2, g3, g4⟩ | ⟨i, m0, g1, rfl, g3, rfl, g4⟩
    · rw [g4] at hf; exact hC.notF i k g3 hl hf
    · rw [g4] at hf
      exact hD.notF i m0 g3 (Blk.rn_live.1 hl) (by rw [hE.F]; exact .inl hf)
  · rcases back_get hS hE he with ⟨g1, g2, g3, g4⟩ | ⟨i, m0, g1, rfl, g3, g5, g4⟩
    · exact hC.sz i k sh es g3
    · obtain ⟨es0, rfl, _⟩ := Blk.rn_row g5.symm
      exact hD.sz i k sh es0 g3
  · rcases back_get hS hE he with ⟨g1, g2, g3, g4⟩ | ⟨i, m0, g1, rfl, g3, g5, g4⟩
    · rw [g4]
      have hr : RowAt C (C.β i) k sh es := hC.row i k sh es g3 hl
      exact hr.ext hX (back_heap hC hS hE g2 g3 hl)
    · obtain ⟨es0, rfl, e2, e3⟩ := Blk.rn_row g5.symm
      rw [g4]
      obtain ⟨c, T, fr, hc, h1, h2, h3, h4⟩ := hD.row i k sh es0 g3 (Blk.live_row e2 hl)
      refine ⟨c, T, fr, hc, h1, by rw [e2]; exact h2, h3, fun j hj => ?_⟩
      obtain ⟨v, hv, hp, hs, hcell⟩ := h4 j (by rw [← e2]; exact hj)
      refine ⟨v, ?_, fun hk => ?_, hs, hcell⟩
      · rcases e3 with ⟨rfl, rfl⟩ | ⟨hk, rfl⟩
        · simp only [List.getElem_map]; exact back_RA hC hS hE hv
        · exact (back_RP hC hS hE (hp hk)).RA
      · rcases e3 with ⟨rfl, rfl⟩ | ⟨hk, rfl⟩
        · exact absurd rfl hk
        · exact back_RP hC hS hE (hp hk)
  · rcases back_get hS hE he with ⟨g1, g2, g3, g4⟩ | ⟨i, m0, g1, rfl, g3, g5, g4⟩
    · rw [g4]
      have hr : MapAt C (C.β i) es := hC.map i es g3
      exact hr.ext hX (back_heap hC hS hE g2 g3 trivial)
    · have := Blk.rn_map g5.symm
      subst this
      rw [g4]
      obtain ⟨me, cl, hm, hs, h⟩ := hD.map i es g3
      refine ⟨me, cl, hm, hs, fun j hj => ?_⟩
      obtain ⟨m, h1, h2, h3⟩ := h j hj
      exact ⟨m, h1, back_RP hC hS hE h2, back_RP hC hS hE h3⟩
end

/-- A contract over some blocks, among more. -/
theorem ACalls.sub {P : Program} {f : FuncId} {args : List AV} {H0 H0' : List Blk} {r : AV} (h : ACalls P f args H0 r H0') (S : List Nat) (H : List Blk) (hS : nodupB S = true) (hH : S.map (fun j => H[j]?) = H0.map (fun b => some (b.rn (rho S H.length)))) :
    ACalls P f (args.map (AV.rnA (rho S H.length))) H (r.rnT (rho S H.length)) (setAll H S ((H0'.take S.length).map (Blk.rn (rho S H.length))) ++ (H0'.drop S.length).map (Blk.rn (rho S H.length))) := by
  refine ⟨h.1, fun C hCH hC cargs hsz hargs => ?_⟩
  subst hCH
  have hlen : H0.length = S.length := by have := congrArg List.length hH; simpa using this.symm
  have hSel : Sel C S H0 := ⟨nodupB_spec S hS, hlen, fun i b hb => by
    have hi : i < S.length := by rw [← hlen]; exact (List.getElem?_eq_some_iff.1 hb).1
    refine ⟨S[i], List.getElem?_eq_getElem hi, ?_⟩
    have := congrArg (fun l => l[i]?) hH
    simp only [List.getElem?_map, hb, List.getElem?_eq_getElem hi, Option.map_some, Option.some.injEq] at this
    exact this⟩
  refine (h.2 (C.sub S H0) rfl (sub_rep hC hSel) cargs (by simpa using hsz) fun i hi => ?_).mono fun e w' h => ?_
  · have := hargs i (by simpa using hi)
    exact sub_RA hSel (by simpa using this)
  · obtain ⟨v, D, he, hw, rfl, hE, hD, hv⟩ := h
    exact ⟨v, C.back S D, he, hw, rfl, back_ext hC hSel hE, back_rep hC hSel hE hD, back_RT hC hSel hE hv⟩

theorem NCall.sub {P : Program} {f : FuncId} {args args0 : List AV} {H H0 H0' H'' : List Blk} {r r' : AV} {next : AV → List Blk → Prop} (S : List Nat) (h : ACalls P f args0 H0 r H0') (hS : nodupB S = true)
    (hH : S.map (fun j => H[j]?) = H0.map (fun b => some (b.rn (rho S H.length)))) (ha : args = args0.map (AV.rnA (rho S H.length))) (er : r.rnT (rho S H.length) = r')
    (eH : setAll H S ((H0'.take S.length).map (Blk.rn (rho S H.length))) ++ (H0'.drop S.length).map (Blk.rn (rho S H.length)) = H'') (hn : next r' H'') : NCall P f args H next := by
  subst ha er eH
  exact ⟨_, _, h.sub S H hS hH, hn⟩

-- rows that are written no more
def roAll : List Blk → List Nat → List Blk
  | H, [] => H
  | H, i :: r => match H[i]? with
    | some (.row kk sh es) => match kk with
      | .box => roAll H r
      | _ => roAll (H.set i (.ro sh es)) r
    | _ => roAll H r
theorem ACalls.roAll {P : Program} {f : FuncId} {r : AV} {H' : List Blk} {args : List AV} : ∀ (ids : List Nat) {H : List Blk}, ACalls P f args (roAll H ids) r H' → ACalls P f args H r H'
  | [], H, h => h
  | i :: l, H, h => by
    unfold Bv.roAll at h
    split at h
    · rename_i kk sh es hid
      split at h
      · exact ACalls.roAll l h
      · rename_i hk
        have h := ACalls.roAll l h
        refine ⟨h.1, fun C hH hC cargs hsz hargs => ?_⟩
        subst hH
        have hE1 := ro_ext hC hid hk
        refine (h.2 { C with H := C.H.set i (.ro sh es) } rfl (ro_hrep hC hid hk) cargs hsz fun i hi => hE1.RA (hargs i hi)).mono fun e w' h => ?_
        obtain ⟨v, D, he, hw, hDH, hE, hD, hv⟩ := h
        exact ⟨v, D, he, hw, hDH, hE1.trans hE, hD, hv⟩
    · exact ACalls.roAll l h
def thawA (H : List Blk) : AV → AV
  | .agg cs => .agg (cs.map (thaw H))
  | a => thaw H a
theorem RA.thawA {C : Ctx} {v : Value} {a : AV} (h : RA C v a) : RA C v (thawA C.H a) := by
  cases a with
  | agg cs =>
    obtain ⟨vs, hv, hsz, hc, ho⟩ := h
    exact ⟨vs, hv, by simpa using hsz, fun i hi => by
      simp only [List.getElem_map]
      exact (hc i (by simpa using hi)).thaw, ho⟩
  | _ => exact h.thaw
theorem ACalls.thawed {P : Program} {f : FuncId} {r : AV} {H H' : List Blk} {args : List AV} (h : ACalls P f (args.map (thawA H)) H r H') : ACalls P f args H r H' := by
  refine ⟨h.1, fun C hH hC cargs hsz hargs => ?_⟩
  subst hH
  exact h.2 C rfl hC cargs (by simpa using hsz) fun i hi => by
    simp only [List.getElem_map]
    exact (hargs i (by simpa using hi)).thawA
/-- Rows are let be, and read as lists from there on. -/
theorem NCall.ro {P : Program} {f : FuncId} {args args' : List AV} {H H' : List Blk} {next : AV → List Blk → Prop} (ids : List Nat) (eH : Bv.roAll H ids = H') (ea : args.map (thawA H') = args') (h : NCall P f args' H' next) : NCall P f args H next := by
  subst eH ea
  obtain ⟨r, H'', h1, h2⟩ := h
  exact ⟨r, H'', (ACalls.thawed h1).roAll ids, h2⟩
end Go.Bv
