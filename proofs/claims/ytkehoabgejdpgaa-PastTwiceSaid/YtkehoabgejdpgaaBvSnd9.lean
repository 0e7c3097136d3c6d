/- Part of the lift: an abstract walk of the program's code, proved sound, and what it shows of this program. -/
import Derived.Test.YtkehoabgejdpgaaBvSnd8
namespace Go.Bv
open Go

theorem own_list {C : Ctx} (hC : HRep C) {G : Nat → Prop} (hG : ∀ b, C.G b → G b) {v : Value} {id off len : Nat} (hr : RL C v (.own id off len)) {kk : RK} {sh : Sh} {es : List AV} (he : C.H[id]? = some (.row kk sh es)) (hkk : kk ≠ .box)
    (h1 : off + len ≤ es.length) (hid : (Blk.row kk sh es).live → G (C.β id)) : RP C.w G v (.list sh ((es.drop off).take len)) := by
  obtain ⟨hone, hlt, hv, _⟩ := hr
  obtain ⟨hn, hl⟩ := hv kk sh es he
  have hlen : ((es.drop off).take len).length = len := by simp; omega
  by_cases hlv : (Blk.row kk sh es).live
  · obtain ⟨cap, rfl, e2, e3, c, T, fz, e4, e5⟩ := hl hlv
    obtain ⟨c', T', fz', hc', _, _, _, hel⟩ := hC.row id kk sh es he hlv
    rw [e4] at hc'; cases hc'
    have := RP.list (w := C.w) (G := G) sh (C.β id) (off * sh.size) cap ((es.drop off).take len) (fun q => if h : off + q < es.length then (hel (off + q) h).choose else undef) (by omega) (hid hlv)
      (fun q hq => by
        have hq' : off + q < es.length := by omega
        simp only [List.getElem_take, List.getElem_drop]
        rw [dif_pos hq']
        exact ((hel (off + q) hq').choose_spec.2.1 fun hk => hkk hk).mono fun b hb => ⟨hG b hb, rfl⟩)
      (fun q hq => by rw [dif_pos (show off + q < es.length by omega)]; exact (hel (off + q) (by omega)).choose_spec.2.2.1)
      (fun q j hq hj => by
        rw [dif_pos (show off + q < es.length by omega), ← (hel (off + q) (by omega)).choose_spec.2.2.2 j hj]
        simp only [World.cell?, e4, Option.isSome_none, Bool.false_eq_true, if_false]
        congr 1
        rw [Nat.add_mul])
    rw [hlen] at this
    exact this
  · obtain ⟨ad, rfl, h0⟩ := hn hlv
    have : (es.drop off).take len = [] := by rw [h0]; simp
    rw [this]
    exact .list0 _ _ _

theorem kill_G {C : Ctx} (hC : HRep C) {id : Nat} {k : Blk} (hk : C.H[id]? = some k) (hlv : k.live) : ({ C with H := C.H.set id .dead } : Ctx).G (C.β id) := by
  refine ⟨hC.lt hk hlv, hC.notF id _ hk hlv, ?_⟩
  rintro ⟨i, m', hj, hjl, hb⟩
  dsimp only at hj hb
  rw [List.getElem?_set] at hj
  split at hj
  · first | (split at hj <;> simp at hj; subst hj; exact hjl) | (have hj := Option.some.inj hj; subst hj; exact hjl)
  · rename_i hne
    exact hne (hC.inj i id _ _ hj hk hjl hlv hb).symm

theorem ro_G {C : Ctx} (hC : HRep C) {id : Nat} {k : Blk} (hk : C.H[id]? = some k) (hlv : k.live) {sh : Sh} {es : List AV} : ({ C with H := C.H.set id (.ro sh es) } : Ctx).G (C.β id) := by
  refine ⟨hC.lt hk hlv, hC.notF id _ hk hlv, ?_⟩
  rintro ⟨i, m', hj, hjl, hb⟩
  dsimp only at hj hb
  rw [List.getElem?_set] at hj
  split at hj
  · first | (split at hj <;> simp at hj; subst hj; exact hjl) | (have hj := Option.some.inj hj; subst hj; exact hjl)
  · rename_i hne
    exact hne (hC.inj i id _ _ hj hk hjl hlv hb).symm

/-- New cells as a list. -/
theorem new_list' {C : Ctx} (hC : HRep C) {w' : World} (hpre : ∀ b, b < C.w.heap.size → w'.heap[b]? = C.w.heap[b]?) (hos : w'.os = C.w.os) (ht : w'.tape = C.w.tape) (ho : w'.output = C.w.output)
    {cells rest : Array Value} {T : TypeId} {fz : Nat × Nat} (hb : w'.heap[C.w.heap.size]? = some (.cells (cells ++ rest) T fz)) {sh : Sh} {es : List AV} (hl : Lay C.w C.G sh cells es) (hp : 0 < sh.size) {cap : Nat} (hlc : es.length ≤ cap) :
    Ext C { C with w := w' } ∧ HRep { C with w := w' } ∧ RT { C with w := w' } (.slice (some ⟨C.w.heap.size, 0, none⟩) es.length cap) (.list sh es) := by
  have hlt := (Array.getElem?_eq_some_iff.1 hb).1
  have hE := grow_ext hC w' hpre (by omega) hos ht ho
  refine ⟨hE, grow_hrep hC hpre (by omega) hos ht ho, ?_⟩
  have hro : RoAt w' ({ C with w := w' } : Ctx).G C.w.heap.size sh es := by
    refine ⟨⟨hlt, fun hF => by have := hC.Flt _ hF; omega, fun ho => ?_⟩, fun i hi => ?_⟩
    · obtain ⟨id, k, hk, hlv, hb⟩ := ho
      have := hC.lt hk hlv
      dsimp only at hb; omega
    · obtain ⟨v, hv, hs, hc⟩ := hl.2 i hi
      refine ⟨v, hE.RP hv, hs, fun j hj => ?_⟩
      have := idx_lt hi hj
      simp only [World.cell?, hb, Option.isSome_none, Bool.false_eq_true, if_false]
      rw [Array.getElem?_append_left (by rw [hl.1]; exact this)]
      exact hc j hj
  have := hro.list (off := 0) (len := es.length) (cap := cap) (by omega) hlc
  rw [Nat.zero_mul, List.drop_zero, List.take_length] at this
  exact RP.RT (C := { C with w := w' }) this

/-- An answer that is an owned row, as a list. -/
theorem Yield.frz {P : Program} {o : Oper} {a : Act} {C : Ctx} {H' : List Blk} {id off len : Nat} {kk : RK} {sh : Sh} {es : List AV} (h : Yield P o a C (.own id off len) H') (he : H'[id]? = some (.row kk sh es)) (hkk : kk ≠ .box) (hle : off + len ≤ es.length) :
    Yield P o a C (.list sh ((es.drop off).take len)) (H'.set id (.ro sh es)) := by
  intro K Q hk
  refine h K Q fun v C' hH hE hC' hv => ?_
  subst hH
  have hE1 := ro_ext hC' he hkk
  have hC1 := ro_hrep hC' he hkk
  have := own_list hC' (G := ({ C' with H := C'.H.set id (.ro sh es) } : Ctx).G) (fun b hb => (hE1.G hb).1) hv he hkk hle (fun hl => ro_G hC' he hl)
  exact hk v { C' with H := C'.H.set id (.ro sh es) } rfl (hE.trans hE1) hC1 (RP.RT (C := { C' with H := C'.H.set id (.ro sh es) }) this)

section
variable {P : Program} (Γ : Tab P) {C : Ctx} (hC : HRep C) {a : Act} {fr : Fr} (hf : FrOk C a fr) {o : Oper} {next : AV → List Blk → Prop}
include hC

theorem go_snd {t0 t1 e : TypeId} {ti' : TI} {i' : TypeInfo} {d' : TypeDesc} {z : Value} (hu : P.underlying t0 = some (.slice e)) (hi : TInfo P e ti' i' d') (hz : i'.zero = some z) (hzs : okSh z ti'.sh)
    (hb1 : 1 ≤ ti'.bytes) (hp : 0 < ti'.sh.size) {x : Value} {xs : List AV} {cells : Array Value} {zeros : Bool} (hsrc : Src P C ti'.sh t1 x e z xs cells zeros) (hxb : zeros = true → xs.length * ti'.bytes ≤ 2 ^ 46)
    {s : AV} {v : Value} (hv : RT C v s) (h : aopGo C.H ti'.sh ti'.bytes s next xs) (ty : TypeId) (hrun : ∀ r w', (Builtin.append_ #[t0, t1] ty #[v, x]).run P C.w = .ok r w' → (execOp a.eval o).run P C.w = .ok (.value r) w') : Snd P o a C next := by
  unfold aopGo at h
  split at h
  · -- onto nil
    obtain ⟨hbd, h⟩ := h
    have hv := hv.nils; subst hv
    by_cases h0 : xs.length = 0
    · have : xs = [] := List.eq_nil_of_length_eq_zero h0
      subst this
      have hcs : cells = #[] := by apply Array.eq_empty_of_size_eq_zero; rw [hsrc.lay.1]; simp
      have hr := append_fits (P := P) hC hu hi.info hi.sz hi.bytes hz hzs hi.small hb1 hsrc hxb (base := none) (len := 0) (cap := 0) (by simp) ty (w' := C.w) rfl
      exact Snd.mk h (new_none hC (fun _ _ => rfl) (Nat.le_refl _) rfl rfl rfl hp none) (hrun _ _ hr)
    · obtain ⟨w', nc, rest, hr, hpre, hos, ht, ho, hb, hone, hnc, hncs⟩ := append_run (P := P) hC hu hi.info hi.sz hi.bytes hz hzs hb1 hi.small hp hsrc (base := none) (cap := 0) (old := []) (oc := #[]) .nil (fun w' _ => rfl) (by simp; omega) (by simpa using hbd) ty
      simp only [List.length_nil, Nat.zero_add, Array.empty_append] at hr hb hnc hncs
      refine Snd.mk h (new_row hC hpre hos ht ho hb (.inl rfl) hone hsrc.lay hp hncs hnc (fun _ hh => by subst hh; simp at h0)) (hrun _ _ hr)
  · rename_i id off len
    split at h
    · rename_i kk s2 es hid
      split at h
      · exact h.elim
      · rename_i hkk
        split at h
        · rename_i hbq
          have := Sh.beq_eq hbq; subst this
          have hv0 := hv
          obtain ⟨_, _, hv, _⟩ := hv
          obtain ⟨hvn, hvl⟩ := hv kk _ es hid
          cases h with
          | endd h0 h1 hbd hn =>
            subst h0 h1
            by_cases hl : (Blk.row kk ti'.sh es).live
            · obtain ⟨cap, rfl, hcap, hes, c, T, fz, hc, hcs⟩ := hvl hl
              obtain ⟨c', T', fz', hc', hfz, hsz, hone, hel⟩ := hC.row id kk _ es hid hl
              rw [hc] at hc'; cases hc'
              by_cases hfit : es.length + xs.length ≤ cap
              · -- in place
                have hcap2 : (es.length + xs.length) * ti'.sh.size ≤ c.size := by
                  have h1 := Nat.mul_le_mul_right ti'.sh.size hfit
                  rw [Nat.zero_add] at hcs
                  omega
                have hcl : cells.toList.length = xs.length * ti'.sh.size := by simp [hsrc.lay.1]
                have hcap3 : es.length * ti'.sh.size + xs.length * ti'.sh.size ≤ c.size := by rw [← Nat.add_mul]; exact hcap2
                have hst := run_storeCells_rep (P := P) (b := C.β id) (o := es.length * ti'.sh.size) (T := T) (fr := fz) cells.toList 0 c C.w hc (by omega) (fzNot hfz) (fun v hv => by
                  rw [Array.mem_toList_iff] at hv
                  obtain ⟨i, hi, rfl⟩ := Array.mem_iff_getElem.1 hv
                  exact hsrc.lay.one hp (Array.getElem?_eq_getElem hi))
                rw [Nat.add_zero] at hst
                have hr := append_fits (P := P) hC hu hi.info hi.sz hi.bytes hz hzs hi.small hb1 hsrc hxb (base := some ⟨C.β id, 0 * ti'.sh.size, none⟩) (len := es.length) (cap := cap) hfit ty (by
                  simp only [addr_add, Nat.zero_mul, Nat.zero_add]; exact hst)
                have hE := mv_ext hC hid hl (es' := es ++ xs) (c' := writeAt c (es.length * ti'.sh.size) cells.toList) hc
                have hget : ∀ q, (writeAt c (es.length * ti'.sh.size) cells.toList)[q]? = if es.length * ti'.sh.size ≤ q ∧ q < es.length * ti'.sh.size + xs.length * ti'.sh.size then cells[q - es.length * ti'.sh.size]? else c[q]? := by
                  intro q
                  have := writeAt_get cells.toList c (es.length * ti'.sh.size) q (by omega)
                  rw [hcl, Array.getElem?_toList] at this
                  exact this
                have hlt := (Array.getElem?_eq_some_iff.1 hc).1
                have hrow : RowAt ⟨World.write C.w (C.β id) (writeAt c (es.length * ti'.sh.size) cells.toList) T fz, C.F, fun i => if i = C.H.length then C.β id else C.β i, C.H.set id .dead ++ [.row kk ti'.sh (es ++ xs)]⟩ (C.β id) kk ti'.sh (es ++ xs) := by
                  refine ⟨writeAt c (es.length * ti'.sh.size) cells.toList, T, fz, by simp [World.write, hlt], by rw [writeAt_size]; exact hfz, by rw [writeAt_size, List.length_append]; exact hcap2, fun q y hy => ?_, fun i hi' => ?_⟩
                  · rw [hget] at hy
                    split at hy
                    · exact hsrc.lay.one hp hy
                    · exact hone q y hy
                  · simp only [List.length_append] at hi'
                    by_cases hlt2 : i < es.length
                    · obtain ⟨u, hu1, hu2, hu3, hu4⟩ := hel i hlt2
                      refine ⟨u, by rw [List.getElem_append_left hlt2]; exact hE.RA hu1, fun hk => by rw [List.getElem_append_left hlt2]; exact hE.RP (hu2 hk), hu3, fun j hj => ?_⟩
                      have := idx_lt hlt2 hj
                      rw [hget, if_neg (by omega)]
                      exact hu4 j hj
                    · obtain ⟨u, hu1, hu2, hu3⟩ := hsrc.lay.2 (i - es.length) (by omega)
                      refine ⟨u, by rw [List.getElem_append_right (by omega)]; exact hE.RA hu1.RA, fun hk => by rw [List.getElem_append_right (by omega)]; exact hE.RP hu1, hu2, fun j hj => ?_⟩
                      have e1 : i * ti'.sh.size = es.length * ti'.sh.size + (i - es.length) * ti'.sh.size := by rw [← Nat.add_mul]; congr 1; omega
                      have := idx_lt (show i - es.length < xs.length by omega) hj
                      rw [hget, if_pos (by omega), ← hu3 j hj]
                      congr 1; omega
                refine Snd.mk hn ⟨_, rfl, rfl, hE, mv_hrep hC hid hl hc hrow, rfl, by simp, fun kk2 s3 es3 he => ?_, fun kk2 s3 es3 he => ?_, fun s3 es3 he => ?_⟩ (hrun _ _ hr)
                all_goals have hlen : C.H.length = (C.H.set id .dead).length := by simp
                rotate_left
                · dsimp only at he
                  rw [hlen, List.getElem?_append_right (Nat.le_refl _)] at he
                  simp at he
                  obtain ⟨rfl, rfl, rfl⟩ := he
                  simp
                · dsimp only at he
                  rw [hlen, List.getElem?_append_right (Nat.le_refl _)] at he
                  simp at he
                dsimp only at he
                rw [hlen, List.getElem?_append_right (Nat.le_refl _)] at he
                simp at he
                obtain ⟨rfl, rfl, rfl⟩ := he
                refine ⟨fun hn => absurd ?_ hn, fun _ => ⟨cap, by simp, by simpa using hfit, by simp; omega, writeAt c (es.length * ti'.sh.size) cells.toList, T, fz, by simp [World.write, hlt], by rw [writeAt_size]; exact hcs⟩⟩
                cases kk <;> simp [Blk.live] at hl ⊢
                exact fun h => absurd h hl
              · -- elsewhere
                have hC1 := kill_hrep hC id
                have hE1 := kill_ext hC id
                have hlay : Lay C.w C.G ti'.sh (c.extract 0 (es.length * ti'.sh.size)) es := by
                  refine ⟨by simp; omega, fun i hi' => ?_⟩
                  obtain ⟨u, hu1, hu2, hu3, hu4⟩ := hel i hi'
                  refine ⟨u, hu2 (fun hk => hkk hk), hu3, fun j hj => ?_⟩
                  have := idx_lt hi' hj
                  rw [Array.getElem?_extract, if_pos (by omega), Nat.zero_add]
                  exact hu4 j hj
                obtain ⟨w', nc, rest, hr, hpre, hos, ht, ho, hb, hone', hnc, hncs⟩ := append_run (P := P) hC hu hi.info hi.sz hi.bytes hz hzs hb1 hi.small hp hsrc (base := some ⟨C.β id, 0 * ti'.sh.size, none⟩) (cap := cap) (old := es) (oc := c.extract 0 (es.length * ti'.sh.size)) hlay (fun w' hw => by
                  simp only [Builtin.firstCells]
                  have hsz2 : (c.extract 0 (es.length * ti'.sh.size)).size = es.length * ti'.sh.size := by simp; omega
                  have hrl := run_loadCells_rep (P := P) (w := w') (b := C.β id) (o := 0) (cs := c.extract 0 (es.length * ti'.sh.size)) (fun q hq => by
                    rw [hsz2] at hq
                    rw [Array.getElem?_extract, if_pos (by omega)]
                    simp only [World.cell?, hw, hc, Option.isSome_none, Bool.false_eq_true, if_false])
                  rw [hsz2] at hrl
                  rw [Nat.zero_mul]
                  exact hrl) (by omega) hbd ty
                have hrow := new_row hC1 (w' := w') (k := kk) hpre hos ht ho hb (.inl rfl) hone' ((hlay.append hsrc.lay).mono fun b hb => hE1.G hb) hp hncs (by simpa using hnc) (fun hk hh => by
                  subst hk
                  have : es = [] := by simp at hh; exact hh.1
                  exact absurd this hl)
                simp only [List.length_append, List.length_set] at hrow hn ⊢
                obtain ⟨C2, hw2, hH2, hE2, hC2, hr2⟩ := hrow
                exact Snd.mk hn ⟨C2, hw2, hH2, hE1.trans hE2, hC2, hr2⟩ (hrun _ _ hr)
            · -- an empty one without memory
              obtain ⟨rfl, rfl⟩ := Blk.not_live_row hl
              obtain ⟨ad, rfl, _⟩ := hvn hl
              have hC1 := kill_hrep hC id
              have hE1 := kill_ext hC id
              by_cases h0 : xs.length = 0
              · have : xs = [] := List.eq_nil_of_length_eq_zero h0
                subst this
                have hcs : cells = #[] := by apply Array.eq_empty_of_size_eq_zero; rw [hsrc.lay.1]; simp
                have hr := append_fits (P := P) hC hu hi.info hi.sz hi.bytes hz hzs hi.small hb1 hsrc hxb (base := ad) (len := 0) (cap := 0) (by simp) ty (w' := C.w) (by subst hcs; cases ad <;> rfl)
                obtain ⟨C2, hw2, hH2, hE2, hC2, hr2⟩ := new_none hC1 (w' := C.w) (fun _ _ => rfl) (Nat.le_refl _) rfl rfl rfl hp ad
                simp only [List.length_set] at hr2
                exact Snd.mk hn ⟨C2, hw2, hH2, hE1.trans hE2, hC2, hr2⟩ (hrun _ _ hr)
              · obtain ⟨w', nc, rest, hr, hpre, hos, ht, ho, hb, hone', hnc, hncs⟩ := append_run (P := P) hC hu hi.info hi.sz hi.bytes hz hzs hb1 hi.small hp hsrc (base := ad) (cap := 0) (old := []) (oc := #[]) .nil (fun w' _ => firstCells_zero w') (by simp; omega) hbd ty
                simp only [List.length_nil, Nat.zero_add, Array.empty_append] at hr hb hnc hncs
                obtain ⟨C2, hw2, hH2, hE2, hC2, hr2⟩ := new_row hC1 (w' := w') (k := .vrow) hpre hos ht ho hb (.inl rfl) hone' (hsrc.lay.mono fun b hb => hE1.G hb) hp hncs hnc (fun _ hh => by subst hh; simp at h0)
                simp only [List.length_set] at hr2
                simp only [List.nil_append] at hn
                exact Snd.mk hn ⟨C2, hw2, hH2, hE1.trans hE2, hC2, hr2⟩ (hrun _ _ hr)
          | ro h0 h1 hbd hn =>
            subst h0 h1
            have hE1 := ro_ext hC hid hkk
            have hC1 := ro_hrep hC hid hkk
            by_cases hl : (Blk.row kk ti'.sh es).live
            · obtain ⟨cap, rfl, hcap, hes, c, T, fz, hc, hcs⟩ := hvl hl
              obtain ⟨c', T', fz', hc', hfz, hsz, hone, hel⟩ := hC.row id kk _ es hid hl
              rw [hc] at hc'; cases hc'
              by_cases hfit : es.length + xs.length ≤ cap
              · -- in place
                have hcap2 : (es.length + xs.length) * ti'.sh.size ≤ c.size := by
                  have h1 := Nat.mul_le_mul_right ti'.sh.size hfit
                  rw [Nat.zero_add] at hcs
                  omega
                have hcl : cells.toList.length = xs.length * ti'.sh.size := by simp [hsrc.lay.1]
                have hcap3 : es.length * ti'.sh.size + xs.length * ti'.sh.size ≤ c.size := by rw [← Nat.add_mul]; exact hcap2
                have hst := run_storeCells_rep (P := P) (b := C.β id) (o := es.length * ti'.sh.size) (T := T) (fr := fz) cells.toList 0 c C.w hc (by omega) (fzNot hfz) (fun v hv => by
                  rw [Array.mem_toList_iff] at hv
                  obtain ⟨i, hi, rfl⟩ := Array.mem_iff_getElem.1 hv
                  exact hsrc.lay.one hp (Array.getElem?_eq_getElem hi))
                rw [Nat.add_zero] at hst
                have hr := append_fits (P := P) hC hu hi.info hi.sz hi.bytes hz hzs hi.small hb1 hsrc hxb (base := some ⟨C.β id, 0 * ti'.sh.size, none⟩) (len := es.length) (cap := cap) hfit ty (by
                  simp only [addr_add, Nat.zero_mul, Nat.zero_add]; exact hst)
                have hget : ∀ q, (writeAt c (es.length * ti'.sh.size) cells.toList)[q]? = if es.length * ti'.sh.size ≤ q ∧ q < es.length * ti'.sh.size + xs.length * ti'.sh.size then cells[q - es.length * ti'.sh.size]? else c[q]? := by
                  intro q
                  have := writeAt_get cells.toList c (es.length * ti'.sh.size) q (by omega)
                  rw [hcl, Array.getElem?_toList] at this
                  exact this
                have hlt := (Array.getElem?_eq_some_iff.1 hc).1
                have hprek : ∀ q, q < es.length * ti'.sh.size → (writeAt c (es.length * ti'.sh.size) cells.toList)[q]? = c[q]? := fun q hq => by rw [hget, if_neg (by omega)]
                have hE := wro_ext (T := T) (fr := fz) hC hid hkk hl hc hprek
                have hro : RoAt (World.write C.w (C.β id) (writeAt c (es.length * ti'.sh.size) cells.toList) T fz) (⟨World.write C.w (C.β id) (writeAt c (es.length * ti'.sh.size) cells.toList) T fz, C.F, C.β, C.H.set id (.ro ti'.sh es)⟩ : Ctx).G (C.β id) ti'.sh (es ++ xs) := by
                  refine ⟨wro_G hC hid hl hc (.inr rfl), fun i hi' => ?_⟩
                  simp only [List.length_append] at hi'
                  have hcell : ∀ (q : Nat), (World.write C.w (C.β id) (writeAt c (es.length * ti'.sh.size) cells.toList) T fz).cell? ⟨C.β id, q, none⟩ = (writeAt c (es.length * ti'.sh.size) cells.toList)[q]? := fun q => by
                    simp only [World.cell?, World.write, Array.getElem?_setIfInBounds_self_of_lt hlt, Option.isSome_none, Bool.false_eq_true, if_false]
                  by_cases hlt2 : i < es.length
                  · obtain ⟨u, hu1, hu2, hu3, hu4⟩ := hel i hlt2
                    refine ⟨u, by rw [List.getElem_append_left hlt2]; exact hE.RP (hu2 hkk), hu3, fun j hj => ?_⟩
                    have := idx_lt hlt2 hj
                    rw [hcell, hget, if_neg (by omega)]
                    exact hu4 j hj
                  · obtain ⟨u, hu1, hu2, hu3⟩ := hsrc.lay.2 (i - es.length) (by omega)
                    refine ⟨u, by rw [List.getElem_append_right (by omega)]; exact hE.RP hu1, hu2, fun j hj => ?_⟩
                    have e1 : i * ti'.sh.size = es.length * ti'.sh.size + (i - es.length) * ti'.sh.size := by rw [← Nat.add_mul]; congr 1; omega
                    have := idx_lt (show i - es.length < xs.length by omega) hj
                    rw [hcell, hget, if_pos (by omega), ← hu3 j hj]
                    congr 1; omega
                have hrp := hro.list (off := 0) (len := (es ++ xs).length) (cap := cap) (by omega) (by simpa using hfit)
                rw [List.drop_zero, List.take_length, List.length_append] at hrp
                exact Snd.mk hn ⟨_, rfl, rfl, hE, wro_hrep hC hid hkk hl hc hprek, RP.RT (C := ⟨World.write C.w (C.β id) (writeAt c (es.length * ti'.sh.size) cells.toList) T fz, C.F, C.β, C.H.set id (.ro ti'.sh es)⟩) hrp⟩ (hrun _ _ hr)
              · -- elsewhere
                have hlay : Lay C.w C.G ti'.sh (c.extract 0 (es.length * ti'.sh.size)) es := by
                  refine ⟨by simp; omega, fun i hi' => ?_⟩
                  obtain ⟨u, hu1, hu2, hu3, hu4⟩ := hel i hi'
                  refine ⟨u, hu2 (fun hk => hkk hk), hu3, fun j hj => ?_⟩
                  have := idx_lt hi' hj
                  rw [Array.getElem?_extract, if_pos (by omega), Nat.zero_add]
                  exact hu4 j hj
                obtain ⟨w', nc, rest, hr, hpre, hos, ht, ho, hb, hone', hnc, hncs⟩ := append_run (P := P) hC hu hi.info hi.sz hi.bytes hz hzs hb1 hi.small hp hsrc (base := some ⟨C.β id, 0 * ti'.sh.size, none⟩) (cap := cap) (old := es) (oc := c.extract 0 (es.length * ti'.sh.size)) hlay (fun w' hw => by
                  simp only [Builtin.firstCells]
                  have hsz2 : (c.extract 0 (es.length * ti'.sh.size)).size = es.length * ti'.sh.size := by simp; omega
                  have hrl := run_loadCells_rep (P := P) (w := w') (b := C.β id) (o := 0) (cs := c.extract 0 (es.length * ti'.sh.size)) (fun q hq => by
                    rw [hsz2] at hq
                    rw [Array.getElem?_extract, if_pos (by omega)]
                    simp only [World.cell?, hw, hc, Option.isSome_none, Bool.false_eq_true, if_false])
                  rw [hsz2] at hrl
                  rw [Nat.zero_mul]
                  exact hrl) (by omega) hbd ty
                obtain ⟨hE2, hC2, hr2⟩ := new_list' hC1 (w' := w') hpre hos ht ho hb ((hlay.append hsrc.lay).mono fun b hb => hE1.G hb) hp (cap := nc) (by simpa using hnc)
                rw [List.length_append] at hr2
                exact Snd.mk hn ⟨_, rfl, rfl, hE1.trans hE2, hC2, hr2⟩ (hrun _ _ hr)
            · -- an empty one without memory
              obtain ⟨rfl, rfl⟩ := Blk.not_live_row hl
              obtain ⟨ad, rfl, _⟩ := hvn hl
              by_cases h0 : xs.length = 0
              · have : xs = [] := List.eq_nil_of_length_eq_zero h0
                subst this
                have hcs : cells = #[] := by apply Array.eq_empty_of_size_eq_zero; rw [hsrc.lay.1]; simp
                have hr := append_fits (P := P) hC hu hi.info hi.sz hi.bytes hz hzs hi.small hb1 hsrc hxb (base := ad) (len := 0) (cap := 0) (by simp) ty (w' := C.w) (by subst hcs; cases ad <;> rfl)
                exact Snd.mk hn ⟨_, rfl, rfl, hE1, hC1, RP.RT (C := { C with H := C.H.set id (.ro ti'.sh []) }) (.list0 _ _ _)⟩ (hrun _ _ hr)
              · obtain ⟨w', nc, rest, hr, hpre, hos, ht, ho, hb, hone', hnc, hncs⟩ := append_run (P := P) hC hu hi.info hi.sz hi.bytes hz hzs hb1 hi.small hp hsrc (base := ad) (cap := 0) (old := []) (oc := #[]) .nil (fun w' _ => firstCells_zero w') (by simp; omega) hbd ty
                simp only [List.length_nil, Nat.zero_add, Array.empty_append] at hr hb hnc hncs
                obtain ⟨hE2, hC2, hr2⟩ := new_list' hC1 (w' := w') hpre hos ht ho hb (hsrc.lay.mono fun b hb => hE1.G hb) hp (cap := nc) hnc
                simp only [List.nil_append] at hn
                exact Snd.mk hn ⟨_, rfl, rfl, hE1.trans hE2, hC2, hr2⟩ (hrun _ _ hr)
          | inpl h1 hn =>
            by_cases hl : (Blk.row kk ti'.sh es).live
            · obtain ⟨cap, rfl, hcap, hes, c, T, fz, hc, hcs⟩ := hvl hl
              obtain ⟨c', T', fz', hc', hfz, hsz, hone, hel⟩ := hC.row id kk _ es hid hl
              rw [hc] at hc'; cases hc'
              have hcl : cells.toList.length = xs.length * ti'.sh.size := by simp [hsrc.lay.1]
              have hcap2 : (off + len + xs.length) * ti'.sh.size ≤ c.size := Nat.le_trans (Nat.mul_le_mul_right _ h1) hsz
              have hcap3 : (off + len) * ti'.sh.size + xs.length * ti'.sh.size ≤ c.size := by rw [← Nat.add_mul]; exact hcap2
              have hst := run_storeCells_rep (P := P) (b := C.β id) (o := (off + len) * ti'.sh.size) (T := T) (fr := fz) cells.toList 0 c C.w hc (by omega) (fzNot hfz) (fun v hv => by
                rw [Array.mem_toList_iff] at hv
                obtain ⟨i, hi, rfl⟩ := Array.mem_iff_getElem.1 hv
                exact hsrc.lay.one hp (Array.getElem?_eq_getElem hi))
              rw [Nat.add_zero] at hst
              have hr := append_fits (P := P) hC hu hi.info hi.sz hi.bytes hz hzs hi.small hb1 hsrc hxb (base := some ⟨C.β id, off * ti'.sh.size, none⟩) (len := len) (cap := cap) (by omega) ty (by
                simp only [addr_add, ← Nat.add_mul]; exact hst)
              have hlen : (es.take (off + len) ++ (xs ++ es.drop (off + len + xs.length))).length = es.length := by simp; omega
              have hsz' : (writeAt c ((off + len) * ti'.sh.size) cells.toList).size = c.size := writeAt_size _ _ _
              have hE := set_ext hC hid hl hlen hc hsz'
              have hget : ∀ q, (writeAt c ((off + len) * ti'.sh.size) cells.toList)[q]? = if (off + len) * ti'.sh.size ≤ q ∧ q < (off + len) * ti'.sh.size + xs.length * ti'.sh.size then cells[q - (off + len) * ti'.sh.size]? else c[q]? := by
                intro q
                have := writeAt_get cells.toList c ((off + len) * ti'.sh.size) q (by omega)
                rw [hcl, Array.getElem?_toList] at this
                exact this
              have hlt := (Array.getElem?_eq_some_iff.1 hc).1
              have hrow : RowAt { C with w := World.write C.w (C.β id) (writeAt c ((off + len) * ti'.sh.size) cells.toList) T fz, H := C.H.set id (.row kk ti'.sh (es.take (off + len) ++ (xs ++ es.drop (off + len + xs.length)))) } (C.β id) kk ti'.sh (es.take (off + len) ++ (xs ++ es.drop (off + len + xs.length))) := by
                refine ⟨writeAt c ((off + len) * ti'.sh.size) cells.toList, T, fz, by simp [World.write, hlt], by rw [writeAt_size]; exact hfz, by rw [writeAt_size, hlen]; exact hsz, fun q y hy => ?_, fun i hi' => ?_⟩
                · rw [hget] at hy
                  split at hy
                  · exact hsrc.lay.one hp hy
                  · exact hone q y hy
                · have hi2 : i < es.length := by rw [hlen] at hi'; exact hi'
                  by_cases hin : off + len ≤ i ∧ i < off + len + xs.length
                  · obtain ⟨u, hu1, hu2, hu3⟩ := hsrc.lay.2 (i - (off + len)) (by omega)
                    have eg : (es.take (off + len) ++ (xs ++ es.drop (off + len + xs.length)))[i]'hi' = xs[i - (off + len)]'(by omega) := by
                      rw [List.getElem_append_right (by simp; omega), List.getElem_append_left (by simp; omega)]
                      congr 1; simp; omega
                    refine ⟨u, by rw [eg]; exact hE.RA hu1.RA, fun hk => by rw [eg]; exact hE.RP hu1, hu2, fun j hj => ?_⟩
                    have e1 : i * ti'.sh.size = (off + len) * ti'.sh.size + (i - (off + len)) * ti'.sh.size := by rw [← Nat.add_mul]; congr 1; omega
                    have := idx_lt (show i - (off + len) < xs.length by omega) hj
                    rw [hget, if_pos (by omega), ← hu3 j hj]
                    congr 1; omega
                  · obtain ⟨u, hu1, hu2, hu3, hu4⟩ := hel i hi2
                    have eg : (es.take (off + len) ++ (xs ++ es.drop (off + len + xs.length)))[i]'hi' = es[i]'hi2 := by
                      rcases Nat.lt_or_ge i (off + len) with h4 | h4
                      · rw [List.getElem_append_left (by simp; omega)]; simp
                      · rw [List.getElem_append_right (by simp; omega), List.getElem_append_right (by simp; omega)]
                        simp only [List.getElem_drop, List.length_take]
                        congr 1; omega
                    refine ⟨u, by rw [eg]; exact hE.RA hu1, fun hk => by rw [eg]; exact hE.RP (hu2 hk), hu3, fun j hj => ?_⟩
                    rw [hget, if_neg]
                    · exact hu4 j hj
                    · intro hh
                      rcases Nat.lt_or_ge i (off + len) with h4 | h4
                      · have := idx_lt h4 hj; omega
                      · have h5 : (off + len + xs.length) * ti'.sh.size ≤ i * ti'.sh.size := Nat.mul_le_mul_right _ (by omega)
                        rw [Nat.add_mul (off + len)] at h5; omega
              refine Snd.mk hn ⟨_, rfl, rfl, hE, set_hrep hC hid hl hlen hc hsz' hrow, rfl, by simpa using (List.getElem?_eq_some_iff.1 hid).1, fun kk2 s3 es3 he => ?_, fun kk2 s3 es3 he => ?_, fun s3 es3 he => ?_⟩ (hrun _ _ hr)
              rotate_left
              · dsimp only at he
                rw [List.getElem?_set_self (List.getElem?_eq_some_iff.1 hid).1] at he
                simp only [Option.some.injEq, Blk.row.injEq] at he
                obtain ⟨rfl, rfl, rfl⟩ := he
                rw [hlen]; omega
              · dsimp only at he
                rw [List.getElem?_set_self (List.getElem?_eq_some_iff.1 hid).1] at he
                simp at he
              dsimp only at he
              rw [List.getElem?_set_self (List.getElem?_eq_some_iff.1 hid).1] at he
              simp only [Option.some.injEq, Blk.row.injEq] at he
              obtain ⟨rfl, rfl, rfl⟩ := he
              exact ⟨fun hn => absurd (Blk.live_row hlen.symm hl) hn, fun _ => ⟨cap, rfl, by omega, by rw [hlen]; exact hes, writeAt c ((off + len) * ti'.sh.size) cells.toList, T, fz, by simp [World.write, hlt], by rw [writeAt_size]; exact hcs⟩⟩
            · obtain ⟨rfl, rfl⟩ := Blk.not_live_row hl
              obtain ⟨ad, rfl, h0⟩ := hvn hl
              simp only [List.length_nil, Nat.le_zero] at h1
              have hx0 : xs = [] := List.eq_nil_of_length_eq_zero (by omega)
              have hoff : off = 0 := by omega
              subst hx0 h0 hoff
              have hcs : cells = #[] := by apply Array.eq_empty_of_size_eq_zero; rw [hsrc.lay.1]; simp
              have hr := append_fits (P := P) hC hu hi.info hi.sz hi.bytes hz hzs hi.small hb1 hsrc hxb (base := ad) (len := 0) (cap := 0) (by simp) ty (w' := C.w) (by subst hcs; cases ad <;> rfl)
              have hset : C.H.set id (.row .vrow ti'.sh ([].take (0 + 0) ++ ([] ++ [].drop (0 + 0 + ([] : List AV).length)))) = C.H := by
                apply List.ext_getElem?
                intro i
                rw [List.getElem?_set]
                split
                · rename_i e; subst e
                  rw [hid]; rfl
                · rfl
              rw [hset] at hn
              exact Snd.mk hn ⟨C, rfl, rfl, Ext.refl C hC, hC, hv0⟩ (hrun _ _ hr)
        · exact h.elim
    · exact h.elim
  · exact h.elim

include hf

theorem snd_append0 {t0 t1 : TypeId} {s x : Operand} {ct : Array TypeId} {ca : Array Operand} (ho : o.op = .call ⟨.builtin .append, ca, ct⟩) (hct : ct.toList = [t0, t1]) (hca : ca.toList = [s, x])
    (h : aopAppend Γ C.H t0 t1 (ev fr s) (thaw C.H (ev fr x)) next) : Snd P o a C next := by
  have hs := hf.ev s
  have hx := hf.evT x
  have hct : ct = #[t0, t1] := by apply Array.ext'; simpa using hct
  have hca : ca = #[s, x] := by apply Array.ext'; simpa using hca
  subst hct hca
  have run0 : ∀ r w', (Builtin.append_ #[t0, t1] o.type #[a.eval s, a.eval x]).run P C.w = .ok r w' → (execOp a.eval o).run P C.w = .ok (.value r) w' := by
    intro r w' hr
    simp only [execOp, ho, resolve, Sem.run_bind, Sem.run_pure, Result.andThen_ok, invoke, builtin, List.map_toArray, List.map_cons, List.map_nil, hr]
  unfold aopAppend at h
  split at h
  · rename_i sh0 by0 e z0 hti
    obtain ⟨i, d, hi⟩ := Γ.info hti
    have hd := hi.slice rfl; subst hd
    split at h
    · rename_i sh bytes kd zero hte
      obtain ⟨i', d', hi'⟩ := Γ.info hte
      split at h
      · rename_i hck
        simp only [Bool.and_eq_true] at hck
        obtain ⟨hz1, hb1, hp⟩ := hck
        have hb1 := Nat.le_of_ble_eq_true hb1
        have hp : 0 < sh.size := Nat.le_of_ble_eq_true hp
        obtain ⟨zv, hz, hze⟩ := hi'.zeroOk (sh := sh) hz1
        have hze : avOfA zv = zero := hze
        have hra : RA C zv zero := hze ▸ RA_avOfA zv
        have hzs := hra.shOk hz1
        split at h
        · rename_i sh1 by1 z1 ht1
          obtain ⟨i1, d1, hi1⟩ := Γ.info ht1
          have hd1 := hi1.str rfl; subst hd1
          split at h
          · rename_i b hxe
            rw [hxe] at hx
            obtain ⟨bs, hb, rfl⟩ := hx.str
            split at h
            · rename_i hleaf
              have hlay : Lay C.w C.G .leaf (bs.data.map fun c => .int .u8 c.toNat) (bs.data.toList.map fun c => .int .u8 c.toNat) := by
                refine ⟨by simp [Sh.size], fun q hq => ?_⟩
                simp only [List.length_map, Array.length_toList] at hq
                refine ⟨.int .u8 (bs.data[q]).toNat, by simp only [List.getElem_map, Array.getElem_toList]; exact .int _ _, rfl, fun j hj => ?_⟩
                simp only [Sh.size] at hj
                have : j = 0 := by omega
                subst this
                simp [Value.cells, Sh.size, Array.getElem?_eq_getElem hq]
              have hsrc : Src P C .leaf t1 (a.eval x) e zv (bs.data.toList.map fun c => .int .u8 c.toNat) (bs.data.map fun c => .int .u8 c.toNat) false := by
                rw [hb]
                refine ⟨.inl ⟨rfl, .inl hi1.und⟩, hlay, fun hh => (by cases hh), fun _ w => by simp [Builtin.lenOf], fun _ w' _ => ?_⟩
                simp only [Builtin.firstCells, List.length_map, Array.length_toList, Sem.run_pure]
                have e1 : (bs.extract 0 bs.data.size).data = bs.data := by
                  rw [ByteArray.data_extract]; simp
                rw [e1]
              exact go_snd hC hi.und hi' hz hzs hb1 (by simp [Sh.size]) hsrc (fun hh => (by cases hh)) hs h o.type run0
            · exact h.elim
          · exact h.elim
        · rename_i sh1 by1 k1 z1 ht1
          obtain ⟨i1, d1, hi1⟩ := Γ.info ht1
          have hd1 := hi1.int rfl; subst hd1
          split at h
          · rename_i k n hxe
            rw [hxe] at hx
            have hx := hx.int
            split at h
            · rename_i hzp
              obtain ⟨⟨hn0, hn1⟩, h⟩ := h
              have hnn : ((n.toNat * bytes : Nat) : Int) = n * bytes := by rw [Int.natCast_mul, Int.toNat_of_nonneg hn0]
              have hnb : n.toNat * bytes ≤ 2 ^ 46 := by omega
              have hn2 : n.toNat ≤ 2 ^ 46 := Nat.le_trans (Nat.le_mul_of_pos_right _ hb1) hnb
              have hsrc : Src P C sh t1 (a.eval x) e zv (List.replicate n.toNat zero) (Builtin.zeroCells zv.cells n.toNat) true :=
                ⟨.inr ⟨rfl, k1, hi1.und⟩, Lay.zeros (hra.pure hzp) hzs _, fun _ => ⟨k, n, hx, hn0, by omega, by simp, by simp⟩, fun hh => (by cases hh), fun hh => (by cases hh)⟩
              exact go_snd hC hi.und hi' hz hzs hb1 hp hsrc (fun _ => by simpa using hnb) hs h o.type run0
            · exact h.elim
          · exact h.elim
        · rename_i sh1 by1 e1 z1 ht1
          obtain ⟨i1, d1, hi1⟩ := Γ.info ht1
          have hd1 := hi1.slice rfl; subst hd1
          obtain ⟨l, cells, ad, cap, h, hlay, hv, hcap, hfc⟩ := elems_snd (P := P) hC hx hp h
          have hsrc : Src P C sh t1 (a.eval x) e zv l cells false :=
            ⟨.inl ⟨rfl, .inr ⟨e1, hi1.und⟩⟩, hlay, fun hh => (by cases hh), fun _ w => by rw [hv]; rfl, fun _ w' hw => hfc w' hw⟩
          exact go_snd hC hi.und hi' hz hzs hb1 hp hsrc (fun hh => (by cases hh)) hs h o.type run0
        · exact h.elim
      · exact h.elim
    · exact h.elim
  · exact h.elim

theorem snd_call {f : Operand} {ct : Array TypeId} {ca : Array Operand} (ho : o.op = .call ⟨.value f, ca, ct⟩) (h : aop Γ fr (.call ⟨.value f, ca, ct⟩) C.H next) : Snd P o a C next := by
  simp only [aop] at h
  have hfe := hf.ev f
  split at h
  · rename_i g caps hfe'
    rw [hfe'] at hfe
    obtain ⟨cv, hfv, hcsz, hcr⟩ := hfe
    have h := evArgsT_elim _ _ h
    split at h
    case h_2 => exact h.elim
    rename_i hnt
    rw [List.all_eq_true] at hnt
    obtain ⟨r, H', ⟨⟨fn, hfn, hbody, hname⟩, hc⟩, hn⟩ := h
    refine ⟨r, H', hn, fun K Q hK => ?_⟩
    have hrun : (execOp a.eval o).run P C.w = .ok (.enter g (ca.map a.eval ++ cv)) C.w := by
      have hbn : fn.body.isNone = false := by cases hb : fn.body <;> simp [hb] at hbody ⊢
      simp only [execOp, ho, resolve, hfv, Deferred.ofValue, Sem.run_bind, Sem.run_pure, Result.andThen_ok, invoke, Array.empty_append, callFunc, run_program, hfn, hname, hbn, Bool.false_eq_true, if_false]
    unfold Oper.wp
    rw [hrun, Oper.upon_enter]
    have hargs : ∀ (i : Nat) (hi : i < (List.map (fun x => thaw C.H (ev fr x)) ca.toList ++ caps).length), RA C ((ca.map a.eval ++ cv).getD i undef) (List.map (fun x => thaw C.H (ev fr x)) ca.toList ++ caps)[i] := by
      intro i hi
      simp only [List.length_append, List.length_map, Array.length_toList] at hi
      by_cases hlt : i < ca.size
      · rw [List.getElem_append_left (by simpa using hlt)]
        simp only [List.getElem_map, Array.getElem_toList, Array.getD_eq_getD_getElem?]
        rw [Array.getElem?_append_left (by simpa using hlt), Array.getElem?_map, Array.getElem?_eq_getElem hlt]
        simp only [Option.map_some, Option.getD_some]
        refine (hf.evT _).RA fun vs hvs => ?_
        have := hnt (thaw C.H (ev fr ca[i])) (List.mem_map.2 ⟨_, by rw [Array.mem_toList_iff]; exact Array.getElem_mem hlt, rfl⟩)
        rw [hvs] at this
        simp [AV.noTup] at this
      · rw [List.getElem_append_right (by simpa using hlt)]
        simp only [List.length_map, Array.length_toList, Array.getD_eq_getD_getElem?]
        rw [Array.getElem?_append_right (by simp; omega), Array.size_map, ← Array.getD_eq_getD_getElem?]
        have := hcr (i - ca.size) (by omega)
        generalize caps[i - ca.size] = q at this
        cases q <;> first | exact this | exact this.elim
    refine (hc C rfl hC (ca.map a.eval ++ cv) (by simp [hcsz]) hargs).mono fun e w' hh => ?_
    obtain ⟨v, C', rfl, rfl, hH, hE, hC', hr⟩ := hh
    exact hK v C' hH hE hC' hr
  · exact h.elim


theorem snd_append {t0 t1 : TypeId} {s x : Operand} {ct : Array TypeId} {ca : Array Operand} (ho : o.op = .call ⟨.builtin .append, ca, ct⟩) (hct : ct.toList = [t0, t1]) (hca : ca.toList = [s, x])
    (h : aop Γ fr (.call ⟨.builtin .append, ca, ct⟩) C.H next) : Snd P o a C next := by
  simp only [aop, hct, hca] at h
  rcases h with h | h
  · exact snd_append0 Γ hC hf ho hct hca h
  · obtain ⟨r, H', ⟨id, off, len, kk, sh, es, l, rfl, he, hkk, hle, rfl, hn⟩, hy⟩ := snd_append0 Γ hC hf ho hct hca h
    exact ⟨_, _, hn, hy.frz he hkk hle⟩
end
end Go.Bv
