/- Part of the lift: an abstract walk of the program's code, proved sound, and what it shows of this program. -/
import Derived.Test.YtkehoabgejdpgaaBvSnd6
namespace Go.Bv
open Go

/-- Writing into one element of a row. -/
theorem put_row {P : Program} {C : Ctx} (hC : HRep C) {id : Nat} {kk : RK} {sh : Sh} {es : List AV} (hid : C.H[id]? = some (.row kk sh es)) {j : Nat} (hj : j < es.length) {k : Nat} {xs : Array Value}
    (hle : k + xs.size ≤ sh.size) (hxs : ∀ (i : Nat) (x : Value), xs[i]? = some x → x.oneCell' = true) {e' : AV} {u' : Value} (hu : RA C u' e') (hup : kk ≠ .box → RP C.w C.G u' e') (hus : okSh u' sh)
    (hcell : ∀ (c : Array Value) (T : TypeId) (fz : Nat × Nat), C.w.heap[C.β id]? = some (.cells c T fz) → ∀ q, q < sh.size → (if k ≤ q ∧ q < k + xs.size then xs[q - k]? else c[j * sh.size + q]?) = u'.cells[q]?) :
    ∃ C' : Ctx, C'.H = C.H.set id (.row kk sh (es.set j e')) ∧ Ext C C' ∧ HRep C' ∧ (storeCells ⟨C.β id, j * sh.size + k, none⟩ xs.toList).run P C.w = .ok () C'.w := by
  have hlive : (Blk.row kk sh es).live := by cases kk <;> simp [Blk.live]; intro h0; subst h0; simp at hj
  obtain ⟨c, T, fz, hc, hfz, hsz, hone, hel⟩ := hC.row id kk sh es hid hlive
  have hrow : (j + 1) * sh.size ≤ es.length * sh.size := Nat.mul_le_mul_right _ hj
  rw [Nat.add_mul, Nat.one_mul] at hrow
  have hrun := run_storeCells_rep (P := P) (b := C.β id) (o := j * sh.size + k) (T := T) (fr := fz) xs.toList 0 c C.w hc (by simp; omega) (fzNot hfz) (fun v hv => by
    rw [Array.mem_toList_iff] at hv
    obtain ⟨i, hi, rfl⟩ := Array.mem_iff_getElem.1 hv
    exact hxs i _ (Array.getElem?_eq_getElem hi))
  rw [Nat.add_zero] at hrun
  have hget : ∀ q, (writeAt c (j * sh.size + k) xs.toList)[q]? = if j * sh.size + k ≤ q ∧ q < j * sh.size + k + xs.size then xs[q - (j * sh.size + k)]? else c[q]? := by
    intro q
    have := writeAt_get xs.toList c (j * sh.size + k) q (by simp; omega)
    rw [Array.length_toList, Array.getElem?_toList] at this
    exact this
  have hsz' : (writeAt c (j * sh.size + k) xs.toList).size = c.size := writeAt_size _ _ _
  have hlen : (es.set j e').length = es.length := by simp
  have hE := set_ext hC hid hlive hlen hc hsz'
  refine ⟨_, rfl, hE, set_hrep hC hid hlive hlen hc hsz' ?_, hrun⟩
  have hlt := (Array.getElem?_eq_some_iff.1 hc).1
  refine ⟨writeAt c (j * sh.size + k) xs.toList, T, fz, by simp [World.write, hlt], by rw [hsz']; exact hfz, by rw [hsz', hlen]; exact hsz, fun q x hx => ?_, fun i hi => ?_⟩
  · rw [hget] at hx
    split at hx
    · exact hxs _ x hx
    · exact hone q x hx
  · rw [hlen] at hi
    obtain ⟨v, hv, hvp, hvs, hvc⟩ := hel i hi
    by_cases hij : i = j
    · subst hij
      refine ⟨u', by simpa using hE.RA hu, fun hk => by simpa using hE.RP (hup hk), hus, fun q hq => ?_⟩
      rw [← hcell c T fz hc q hq, hget]
      by_cases hh : k ≤ q ∧ q < k + xs.size
      · rw [if_pos hh, if_pos (by omega)]
        congr 1; omega
      · rw [if_neg hh, if_neg (by omega)]
    · refine ⟨v, by rw [List.getElem_set_ne (by omega)]; exact hE.RA hv, fun hk => by rw [List.getElem_set_ne (by omega)]; exact hE.RP (hvp hk), hvs, fun q hq => ?_⟩
      rw [hget, if_neg, hvc q hq]
      intro hh
      rcases Nat.lt_or_gt_of_ne hij with h1 | h1
      · have := idx_lt h1 hq; omega
      · have : (j + 1) * sh.size ≤ i * sh.size := Nat.mul_le_mul_right _ h1
        rw [Nat.add_mul, Nat.one_mul] at this; omega

section
variable {P : Program} (Γ : Tab P) {C : Ctx} (hC : HRep C) {a : Act} {fr : Fr} (hf : FrOk C a fr) {o : Oper} {next : AV → List Blk → Prop}
include hC

theorem store_snd {id : Nat} {kk : RK} {sh : Sh} {es : List AV} (hid : C.H[id]? = some (.row kk sh es)) {j k : Nat} (hj : j < es.length) {t : TypeId} {ti : TI} {i : TypeInfo} {d : TypeDesc} (hi : TInfo P t ti i d)
    {v : Value} {y : AV} (hv : RA C v y) (hs : isSh y ti.sh = true) (hp : kk ≠ .box → y.pure = true) {nx : AV → Prop} (h : storePart sh ti.sh es[j] k y nx) :
    ∃ e' C', nx e' ∧ C'.H = C.H.set id (.row kk sh (es.set j e')) ∧ Ext C C' ∧ HRep C' ∧ (storeVar t ⟨C.β id, j * sh.size + k, none⟩ v).run P C.w = .ok () C'.w := by
  have hvs := hv.shOk hs
  have hsz := hvs.size
  have fin : ∀ {e' : AV} {C' : Ctx}, nx e' → C'.H = C.H.set id (.row kk sh (es.set j e')) → Ext C C' → HRep C' → (storeCells ⟨C.β id, j * sh.size + k, none⟩ v.cells.toList).run P C.w = .ok () C'.w →
      ∃ e' C', nx e' ∧ C'.H = C.H.set id (.row kk sh (es.set j e')) ∧ Ext C C' ∧ HRep C' ∧ (storeVar t ⟨C.β id, j * sh.size + k, none⟩ v).run P C.w = .ok () C'.w := by
    intro e' C' h1 h2 h3 h4 h5
    refine ⟨e', C', h1, h2, h3, h4, ?_⟩
    simp only [storeVar, Sem.run_bind, run_sz C.w hi.info, Result.andThen_ok, Sem.run_ite, hi.sz]
    rw [if_neg (by simp [hsz])]
    exact h5
  unfold storePart at h
  split at h
  · rename_i hb
    simp only [Bool.and_eq_true] at hb
    have hk := Nat.eq_of_beq_eq_true hb.1
    have hsh := Sh.beq_eq hb.2
    subst hk
    rw [hsh] at hvs hsz
    obtain ⟨C', h2, h3, h4, h5⟩ := put_row (P := P) hC hid hj (k := 0) (xs := v.cells) (by omega) (fun i x hx => hvs.cell_one hx) hv (fun hk => hv.pure (hp hk)) hvs (fun c _ _ _ q hq => by rw [if_pos (by omega), Nat.sub_zero])
    exact fin h h2 h3 h4 h5
  · split at h
    · rename_i cs hcs
      have hlive : (Blk.row kk sh es).live := by cases kk <;> simp [Blk.live]; intro h0; subst h0; simp at hj
      obtain ⟨c, T, fz, hc, _, _, _, hel⟩ := hC.row id kk sh es hid hlive
      obtain ⟨u, hu, hup, hus, hucell⟩ := hel j hj
      rw [hcs] at hu hup
      obtain ⟨us, rfl, husz, huc, huone⟩ := hu
      have hussz : us.size = sh.size := by simpa [Value.cells] using hus.size
      obtain ⟨h1, h2, h3⟩ := hv.cellsOk hs
      have part : ∀ {cs' : List AV}, k + v.cells.size ≤ us.size → cs'.length = cs.length → (∀ q (hq : q < cs'.length) (hq' : q < cs.length), ¬ (k ≤ q ∧ q < k + y.cells.length) → cs'[q] = cs[q]) → (∀ q (hq : q < y.cells.length) (hq' : k + q < cs'.length), cs'[k + q] = y.cells[q]) → nx (.agg cs') →
          ∃ e' C', nx e' ∧ C'.H = C.H.set id (.row kk sh (es.set j e')) ∧ Ext C C' ∧ HRep C' ∧ (storeVar t ⟨C.β id, j * sh.size + k, none⟩ v).run P C.w = .ok () C'.w := by
        intro cs' hle hlen hold hnew hn
        have hwr : ∀ q, (writeAt us k v.cells.toList)[q]? = if k ≤ q ∧ q < k + v.cells.size then v.cells[q - k]? else us[q]? := by
          intro q
          have := writeAt_get v.cells.toList us k q (by simp; omega)
          rw [Array.length_toList, Array.getElem?_toList] at this
          exact this
        have hgd : ∀ q, q < us.size → (writeAt us k v.cells.toList).getD q undef = if k ≤ q ∧ q < k + v.cells.size then v.cells.getD (q - k) undef else us.getD q undef := by
          intro q _
          simp only [Array.getD_eq_getD_getElem?, hwr]
          split <;> rfl
        have hr : ∀ (q : Nat) (hq : q < cs'.length), R1 C ((writeAt us k v.cells.toList).getD q undef) cs'[q] := by
          intro q hq
          rw [hgd q (by omega)]
          by_cases hh : k ≤ q ∧ q < k + v.cells.size
          · rw [if_pos hh]
            have := hnew (q - k) (by omega) (by omega)
            have e : k + (q - k) = q := by omega
            simp only [e] at this
            rw [this]
            exact h3 (q - k) (by omega)
          · rw [if_neg hh, hold q hq (by omega) (by omega)]
            exact huc q (by omega)
        have hone : ∀ (q : Nat) (x : Value), (writeAt us k v.cells.toList)[q]? = some x → x.oneCell' = true := by
          intro q x hx
          rw [hwr] at hx
          split at hx
          · exact hvs.cell_one hx
          · exact huone q x hx
        have hra : RA C (.agg (writeAt us k v.cells.toList)) (.agg cs') := ⟨_, rfl, by rw [writeAt_size]; omega, hr, hone⟩
        have hsh' : okSh (.agg (writeAt us k v.cells.toList)) sh := by
          cases sh with
          | leaf => simp [okSh, Value.oneCell'] at hus
          | agg n => exact ⟨_, rfl, by rw [writeAt_size]; simpa [Sh.size] using hussz, hone⟩
        have hrp : kk ≠ .box → RP C.w C.G (.agg (writeAt us k v.cells.toList)) (.agg cs') := by
          intro hk
          have hyp := hv.pure (hp hk)
          have hup := hup hk
          cases hup with
          | agg _ _ _ hcr _ =>
          refine .agg _ _ (by rw [writeAt_size]; omega) (fun q hq => ?_) hone
          rw [hgd q (by omega)]
          by_cases hh : k ≤ q ∧ q < k + v.cells.size
          · rw [if_pos hh]
            have := hnew (q - k) (by omega) (by omega)
            have e : k + (q - k) = q := by omega
            simp only [e] at this
            rw [this]
            have hp1 : (y.cells[q - k]'(by omega)).pure1 = true := by
              have := hp hk
              cases y with
              | agg ys => simp only [AV.pure, List.all_eq_true] at this; exact this _ (List.getElem_mem _)
              | _ => simp only [AV.cells, List.length_singleton] at h2 ⊢; simp only [AV.pure] at this; simpa [AV.cells] using this
            exact RL.pure (h3 (q - k) (by omega)) hp1
          · rw [if_neg hh, hold q hq (by omega) (by omega)]
            exact hcr q (by omega)
        obtain ⟨C', h5, h6, h7, h8⟩ := put_row (P := P) hC hid hj (k := k) (xs := v.cells) (by omega) (fun i x hx => hvs.cell_one hx) hra hrp hsh' (fun c' T' fz' hc' q hq => by
          rw [hc] at hc'; cases hc'
          rw [hucell q hq]
          exact (hwr q).symm)
        exact fin hn h5 h6 h7 h8
      split at h
      · rename_i ht
        rw [ht] at h2 hsz
        simp only [Sh.size] at h2 hsz
        split at h
        · rename_i hle
          have hle := Nat.le_of_ble_eq_true hle
          have hyc : y.cells = [y] := by
            cases y with
            | agg ys => rw [ht] at hs; simp [isSh, AV.sh, Sh.beq] at hs
            | _ => rfl
          refine part (cs' := cs.set k y) (by omega) (by simp) (fun q hq hq' hh => ?_) (fun q hq hq' => ?_) h
          · rw [h2] at hh
            rw [List.getElem_set_ne (by omega)]
          · have : q = 0 := by omega
            subst this
            simp [hyc]
        · exact h.elim
      · rename_i n ht
        rw [ht] at h2 hsz
        simp only [Sh.size] at h2 hsz
        split at h
        · rename_i hle
          have hle := Nat.le_of_ble_eq_true hle
          have hlen : (cs.take k ++ (y.cells ++ cs.drop (k + n))).length = cs.length := by simp; omega
          refine part (by omega) hlen (fun q hq hq' hh => ?_) (fun q hq hq' => ?_) h
          · rw [h2] at hh
            rcases Nat.lt_or_ge q k with h4 | h4
            · rw [List.getElem_append_left (by simp; omega)]
              simp
            · rw [List.getElem_append_right (by simp; omega), List.getElem_append_right (by simp; omega)]
              simp only [List.getElem_drop, List.length_take]
              congr 1; omega
          · rw [List.getElem_append_right (by simp; omega), List.getElem_append_left (by simp; omega)]
            congr 1; simp; omega
        · exact h.elim
    · exact h.elim

include hf

theorem snd_store {t : TypeId} {x y : Operand} (ho : o.op = .store t x y) (h : aop Γ fr (.store t x y) C.H next) : Snd P o a C next := by
  simp only [aop] at h
  have hx := hf.ev x
  have hy := hf.ev y
  split at h
  · rename_i tsh by' kd ze hti
    obtain ⟨i, d, hi⟩ := Γ.info hti
    have fin : ∀ {id j k : Nat} {kk : RK} {sh : Sh} {es : List AV} {nx : AV → Prop}, ev fr x = .ptr id j k → C.H[id]? = some (.row kk sh es) → (hj : j < es.length) → isSh (ev fr y) tsh = true → (kk ≠ .box → (ev fr y).pure = true) →
        storePart sh tsh es[j] k (ev fr y) nx → (∀ e', nx e' → next .undef (C.H.set id (.row kk sh (es.set j e')))) → Snd P o a C next := by
      intro id j k kk sh es nx hxe hid hj hs hp hst hn
      rw [hxe] at hx
      have hpv := hx.ptr hid
      obtain ⟨e', C', hne, hH, hE, hC', hrun⟩ := store_snd hC hid hj hi (hy.RA (isSh.notTup hs)) hs hp hst
      refine ⟨.undef, _, hn e' hne, ?_⟩
      rw [← hH]
      refine Yield.skip ?_ hE hC'
      simp only [execOp, ho, hpv, Instr.storeAt, Instr.sureAddr, Sem.run_bind, Sem.run_pure, Result.andThen_ok, hrun]
    split at h
    · rename_i id j k hxe
      split at h
      · rename_i hs
        split at h
        · rename_i sh e hid
          split at h
          · rw [force_eq] at h
            exact fin hxe hid (by simp) hs (fun hk => absurd rfl hk) h (fun e' hn => hn)
          · exact h.elim
        · rename_i sh es hid
          split at h
          · rename_i hp
            obtain ⟨e, he, h⟩ := h
            rw [force_eq] at h
            obtain ⟨hlt, rfl⟩ := List.getElem?_eq_some_iff.1 he
            exact fin hxe hid hlt hs (fun _ => hp) h (fun e' hn => hn)
          · exact h.elim
        · rename_i sh es hid
          split at h
          · rename_i hp
            obtain ⟨e, he, h⟩ := h
            rw [force_eq] at h
            obtain ⟨hlt, rfl⟩ := List.getElem?_eq_some_iff.1 he
            exact fin hxe hid hlt hs (fun _ => hp) h (fun e' hn => hn)
          · exact h.elim
        · exact h.elim
      · exact h.elim
    · exact h.elim
  · exact h.elim

end
end Go.Bv
