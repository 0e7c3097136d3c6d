/- Part of the lift: an abstract walk of the program's code, proved sound, and what it shows of this program. -/
import Derived.Test.YtkehoabgejdpgaaBvSnd5
namespace Go.Bv
open Go

theorem run_mapM_list {α β : Type} {P : Program} {f : α → Sem β} {g : α → β} {w : World} : ∀ (l : List α), (∀ x ∈ l, (f x).run P w = .ok (g x) w) → (l.mapM f).run P w = .ok (l.map g) w
  | [], _ => by simp
  | x :: r, h => by
    simp only [List.mapM_cons, Sem.run_bind, h x (by simp), Result.andThen_ok, run_mapM_list r fun y hy => h y (by simp [hy]), Sem.run_pure, List.map_cons]

theorem run_mapM_array {α β : Type} {P : Program} {f : α → Sem β} {g : α → β} {w : World} (l : Array α) (h : ∀ x ∈ l.toList, (f x).run P w = .ok (g x) w) : (l.mapM f).run P w = .ok (l.map g) w := by
  rw [Array.mapM_eq_mapM_toList, Sem.run_map, run_mapM_list l.toList h]
  simp only [Result.andThen_ok]
  congr 1
  apply Array.ext'; simp

section
variable {P : Program} (Γ : Tab P) {C : Ctx} (hC : HRep C) {a : Act} {fr : Fr} (hf : FrOk C a fr) {o : Oper} {next : AV → List Blk → Prop}
include hC hf

theorem snd_build {t : TypeId} {parts : Array (Nat × Operand)} (ho : o.op = .build t parts) (h : aop Γ fr (.build t parts) C.H next) : Snd P o a C next := by
  simp only [aop] at h
  split at h
  · rename_i n by' fs eqs z hti
    obtain ⟨i, d, hi⟩ := Γ.info hti
    obtain ⟨fields, rfl, hfs, _, hu⟩ := hi.struct rfl
    obtain ⟨zv, hz, hze⟩ := hi.zeroOk (sh := .agg z.length) (by simp [isSh, AV.sh, Sh.beq])
    have hze : avOfA zv = .agg z := hze
    have hra : RA C zv (.agg z) := hze ▸ RA_avOfA zv
    obtain ⟨zc, rfl, _⟩ := hra
    have hra : RA C (.agg zc) (.agg z) := hze ▸ RA_avOfA _
    have hpl : ∀ (i off : Nat) (sh : Sh), fs[i]? = some (off, sh) → (fields.map fun f => (f.offset, P.cellsOf f.type))[i]? = some (off, sh.size) := by
      intro i off sh h1
      have h1 : (fields.toList.map fun f => (f.offset, shOf P f.type))[i]? = some (off, sh) := by rw [← hfs]; exact h1
      rw [List.getElem?_map, Option.map_eq_some_iff] at h1
      obtain ⟨fl, hfl, he⟩ := h1
      obtain ⟨rfl, rfl⟩ := Prod.mk.inj he
      rw [Array.getElem?_toList] at hfl
      obtain ⟨d', hd', hd1⟩ := hu fl (by rw [Array.mem_toList_iff]; exact Array.mem_of_getElem? hfl)
      simp only [Array.getElem?_map, hfl, Option.map_some]
      congr 2
      rw [shOf_eq hd']
      cases hag : isAggD d' with
      | false => simp [Sh.size, hd1 hag]
      | true => simp [Sh.size]
    obtain ⟨cs', cells', hk, hr', hfill⟩ := fillA_snd hf hpl parts.toList z zc _ h hra
    refine ⟨_, _, hk, Yield.same hC (v := .agg cells') ?_ hr'⟩
    have hm : (fields.mapM fun f => (do pure (f.offset, ← sizeOf f.type) : Sem (Nat × Nat))).run P C.w = .ok (fields.map fun f => (f.offset, P.cellsOf f.type)) C.w := by
      refine run_mapM_array fields fun f hfm => ?_
      obtain ⟨d', hd', _⟩ := hu f hfm
      obtain ⟨i', hi'⟩ := und_info hd'
      simp [run_sz C.w hi', cellsOf_eq hi']
    have hpt : (parts.map fun (i, x) => (i, a.eval x)).toList = parts.toList.map fun (i, x) => (i, a.eval x) := by simp
    simp only [execOp, ho]
    simp only [Instr.build, Sem.run_bind, run_zero C.w hi.info hz, Result.andThen_ok, run_und C.w hi.und, hm, Value.cells, hpt, hfill, Sem.run_pure]
  · exact h.elim

omit hC in
theorem fillS_snd {sh : Sh} (hp : 0 < sh.size) : ∀ (parts : List (Nat × Operand)) (es : List AV) (cells : Array Value) (k : List AV → Prop), fillS fr sh es parts k → Lay C.w C.G sh cells es →
      ∃ es' cells', k es' ∧ es'.length = es.length ∧ Lay C.w C.G sh cells' es' ∧ Instr.fill (fun i => some (i * sh.size, sh.size)) cells (parts.map fun (i, x) => (i, a.eval x)) = some cells'
  | [], es, cells, k, h, hl => ⟨es, cells, h, rfl, hl, rfl⟩
  | (i, x) :: rest, es, cells, k, h, hl => by
    simp only [fillS_cons] at h
    split at h
    · rename_i hs
      rw [force_eq] at h
      simp only [Bool.and_eq_true] at hs
      obtain ⟨hs1, hs2, hs3⟩ := hs
      have hlt : i < es.length := Nat.le_of_ble_eq_true hs3
      have hra := (hf.ev x).RA (isSh.notTup hs1)
      have hsh := hra.shOk hs1
      have hrp := hra.pure hs2
      have hsz := hsh.size
      have hle : i * sh.size + sh.size ≤ es.length * sh.size := by
        have : (i + 1) * sh.size ≤ es.length * sh.size := Nat.mul_le_mul_right _ hlt
        rw [Nat.add_mul, Nat.one_mul] at this; exact this
      have hl' : Lay C.w C.G sh (writeAt cells (i * sh.size) (a.eval x).cells.toList) (es.set i (ev fr x)) := by
        refine ⟨by rw [writeAt_size, hl.1]; simp, fun q hq => ?_⟩
        simp only [List.length_set] at hq
        have hwr : ∀ j, j < sh.size → (writeAt cells (i * sh.size) (a.eval x).cells.toList)[q * sh.size + j]? = if q = i then (a.eval x).cells[j]? else cells[q * sh.size + j]? := by
          intro j hj
          rw [writeAt_get _ _ _ _ (by simp [hsz, hl.1]; exact hle)]
          simp only [Array.length_toList, hsz]
          by_cases hqi : q = i
          · subst hqi
            rw [if_pos (by omega), if_pos rfl, Nat.add_sub_cancel_left, Array.getElem?_toList]
          · rw [if_neg hqi, if_neg]
            intro hh
            rcases Nat.lt_or_gt_of_ne hqi with h1 | h1
            · have := idx_lt h1 hj; omega
            · have : (i + 1) * sh.size ≤ q * sh.size := Nat.mul_le_mul_right _ h1
              rw [Nat.add_mul, Nat.one_mul] at this; omega
        by_cases hqi : q = i
        · subst hqi
          exact ⟨a.eval x, by simpa using hrp, hsh, fun j hj => by rw [hwr j hj, if_pos rfl]⟩
        · obtain ⟨v, hv, hvs, hc⟩ := hl.2 q hq
          refine ⟨v, ?_, hvs, fun j hj => by rw [hwr j hj, if_neg hqi]; exact hc j hj⟩
          rw [List.getElem_set_ne (by omega)]; exact hv
      obtain ⟨es', cells', hk, hlen, hr', hfill⟩ := fillS_snd hp rest _ _ k h hl'
      refine ⟨es', cells', hk, by simpa using hlen, hr', ?_⟩
      simp only [List.map_cons, Instr.fill]
      rw [if_neg (by simp [hsz, hl.1]; exact hle), fold_writeAt]
      exact hfill
    · exact h.elim

omit hC hf in
theorem range_zero {z : Array Value} (hz : 0 < z.size) (n : Nat) : (Array.range (n * z.size)).map (fun i => z[i % z.size]!) = Builtin.zeroCells z n := rfl

omit hC hf in
theorem new_list (hC : HRep C) {sh : Sh} {es : List AV} {cells : Array Value} {e : TypeId} (hl : Lay C.w C.G sh cells es) :
    RP (C.w.alloc (.cells cells e)) ({ C with w := C.w.alloc (.cells cells e) } : Ctx).G (.slice (some ⟨C.w.heap.size, 0, none⟩) es.length es.length) (.list sh es) := by
  have hE := grow_ext hC (C.w.alloc (.cells cells e)) (push_pre _ _) (by simp) rfl rfl rfl
  exact RP.list (w := C.w.alloc (.cells cells e)) (G := ({ C with w := C.w.alloc (.cells cells e) } : Ctx).G) sh C.w.heap.size 0 es.length es (fun i => if h : i < es.length then (hl.2 i h).choose else undef) (by omega)
    ⟨by simp, fun hF => by have := hC.Flt _ hF; omega, fun ho => by
      obtain ⟨id, k, hk, hlv, hb⟩ := ho
      have := hC.lt hk hlv
      dsimp only at hb; omega⟩
    (fun i hi => by rw [dif_pos hi]; exact hE.RP (hl.2 i hi).choose_spec.1)
    (fun i hi => by rw [dif_pos hi]; exact (hl.2 i hi).choose_spec.2.1)
    (fun i j hi hj => by
      rw [dif_pos hi, ← (hl.2 i hi).choose_spec.2.2 j hj]
      simp only [World.cell?, alloc_last, Option.isSome_none, Bool.false_eq_true, if_false, Nat.zero_add])

theorem snd_buildSlice {t : TypeId} {len : Nat} {parts : Array (Nat × Operand)} (ho : o.op = .buildSlice t len parts) (h : aop Γ fr (.buildSlice t len parts) C.H next) : Snd P o a C next := by
  simp only [aop] at h
  split at h
  · rename_i sh0 by0 e z0 hti
    obtain ⟨i, d, hi⟩ := Γ.info hti
    have hd := hi.slice rfl; subst hd
    split at h
    · rename_i sh by' kd z hte
      obtain ⟨i', d', hi'⟩ := Γ.info hte
      split at h
      · rename_i hs
        simp only [Bool.and_eq_true] at hs
        obtain ⟨⟨hs1, hs2⟩, hs3, hs4⟩ := hs
        have hp : 0 < sh.size := Nat.le_of_ble_eq_true hs4
        have hb := Nat.le_of_ble_eq_true hs3
        have hsz : i'.size = sh.size := hi'.sz
        split at h
        · split at h
          · rename_i hpt
            have hpt : parts = #[] := by apply Array.ext'; simpa using hpt
            subst hpt
            refine Snd.mk h (new_none hC (push_pre C.w (.cells #[] e)) (by simp) rfl rfl rfl hp (some ⟨C.w.heap.size, 0, none⟩)) ?_
            simp only [execOp, ho]
            simp only [Instr.buildSlice, Sem.run_bind, run_und C.w hi.und, Result.andThen_ok, run_sz C.w hi'.info, Nat.zero_mul, Sem.run_ite, Sem.run_pure]
            rw [if_neg (by omega)]
            simp [newRow, Instr.fill, Array.range]
          · exact h.elim
        · rename_i n
          obtain ⟨zv, hz, hze⟩ := hi'.zeroOk (sh := sh) hs1
          have hze : avOfA zv = z := hze
          have hra : RA C zv z := hze ▸ RA_avOfA zv
          have hzs := hra.shOk hs1
          have hzp := hra.pure hs2
          have hzsz := hzs.size
          obtain ⟨es', cells', hk, hlen, hl, hfill⟩ := fillS_snd hf hp parts.toList _ _ _ h (Lay.zeros (w := C.w) (G := C.G) hzp hzs (n + 1))
          have hE := grow_ext hC (C.w.alloc (.cells cells' e)) (push_pre _ _) (by simp) rfl rfl rfl
          have hC' := grow_hrep hC (push_pre C.w (.cells cells' e)) (by simp) rfl rfl rfl
          have hlen : es'.length = n + 1 := by simpa using hlen
          have hcs : cells'.size = (n + 1) * sh.size := by rw [hl.1, hlen]
          have hexec : (execOp a.eval o).run P C.w = .ok (.value (.slice (some ⟨C.w.heap.size, 0, none⟩) (n + 1) (n + 1))) (C.w.alloc (.cells cells' e)) := by
            have hpt : (parts.map fun (i, x) => (i, a.eval x)).toList = parts.toList.map fun (i, x) => (i, a.eval x) := by simp
            simp only [execOp, ho]
            have hne : ¬ ((n + 1) * sh.size = 0) := by
              intro h0; rcases Nat.mul_eq_zero.1 h0 with h1 | h1 <;> omega
            have hz0 : (Array.range ((n + 1) * sh.size)).map (fun i => zv.cells[i % zv.cells.size]!) = Builtin.zeroCells zv.cells (n + 1) := by rw [← hzsz]; rfl
            simp only [Instr.buildSlice, Sem.run_bind, run_und C.w hi.und, Result.andThen_ok, run_sz C.w hi'.info, hsz, Sem.run_ite, Sem.run_pure]
            rw [if_neg (by omega), if_neg hne]
            simp only [run_zero C.w hi'.info hz, Result.andThen_ok, Sem.run_bind, Sem.run_pure, hz0, hpt, hfill, newRow, run_newObj, World.alloc_eq]
          have hlist : next (.list sh es') C.H → Snd P o a C next := fun hk => by
            refine ⟨_, _, hk, Yield.of (C' := { C with w := C.w.alloc (.cells cells' e) }) (v := .slice (some ⟨C.w.heap.size, 0, none⟩) (n + 1) (n + 1)) hexec hE hC' ?_⟩
            have := new_list hC (e := e) hl
            rw [hlen] at this
            exact this
          split at hk
          · rcases hk with hk | hk
            · have hrow := new_row hC (k := .row) (push_pre C.w (.cells (cells' ++ #[]) e)) rfl rfl rfl (alloc_last _ _) (.inl rfl) (fun o x hx => by simp at hx) hl hp (cap := n + 1) (by simp [hcs]) (by omega) (fun hh => by cases hh)
              rw [hlen] at hrow
              refine Snd.mk hk hrow ?_
              rw [hexec, Array.append_empty]
            · exact hlist hk
          · exact hlist hk
      · exact h.elim
    · exact h.elim
  · exact h.elim


theorem snd_makeSlice {t : TypeId} {l c : Operand} (ho : o.op = .makeSlice t l c) (h : aop Γ fr (.makeSlice t l c) C.H next) : Snd P o a C next := by
  simp only [aop] at h
  have hl := hf.ev l
  have hc := hf.ev c
  split at h
  · rename_i sh0 by0 e z0 hti
    obtain ⟨i, d, hi⟩ := Γ.info hti
    have hd := hi.slice rfl; subst hd
    split at h
    · rename_i sh by' kd z hte
      obtain ⟨i', d', hi'⟩ := Γ.info hte
      split at h
      · rename_i hs
        simp only [Bool.and_eq_true] at hs
        obtain ⟨⟨hs1, hs2⟩, hs4⟩ := hs
        have hp : 0 < sh.size := Nat.le_of_ble_eq_true hs4
        unfold intA at h
        split at h
        · rename_i k n hle
          rw [hle] at hl
          have hl := hl.int
          split at h
          · rename_i k' m hce
            rw [hce] at hc
            have hc := hc.int
            obtain ⟨⟨hmn, h0, h1, h2⟩, h⟩ := h
            have hmn : n = m := hmn.symm
            subst hmn
            obtain ⟨zv, hz, hze⟩ := hi'.zeroOk (sh := sh) hs1
            have hze : avOfA zv = z := hze
            have hra : RA C zv z := hze ▸ RA_avOfA zv
            have hzs := hra.shOk hs1
            have hzsz := hzs.size
            have hsz : i'.size = sh.size := hi'.sz
            have hby : i'.bytes = by' := hi'.bytes
            have hw : IntKind.i64.wrap n = n := by unfold IntKind.wrap; simp [IntKind.bits, IntKind.signed]; omega
            have hlay := Lay.zeros (w := C.w) (G := C.G) (hra.pure hs2) hzs n.toNat
            have hexec : (execOp a.eval o).run P C.w = .ok (.value (.slice (some ⟨C.w.heap.size, 0, none⟩) n.toNat n.toNat)) (C.w.alloc (.cells (Builtin.zeroCells zv.cells n.toNat) e)) := by
              simp only [execOp, ho, hl, hc]
              have hrg : (Array.range (n.toNat * sh.size)).map (fun i => (if n.toNat * sh.size = 0 then #[] else zv.cells)[i % (if n.toNat * sh.size = 0 then #[] else zv.cells).size]!) = Builtin.zeroCells zv.cells n.toNat := by
                by_cases hh : n.toNat * sh.size = 0
                · have : Builtin.zeroCells zv.cells n.toNat = #[] := by apply Array.eq_empty_of_size_eq_zero; rw [zeroCells_size, hzsz]; exact hh
                  rw [this, hh]; simp [Array.range]
                · simp only [hh, if_false]; rw [← hzsz]; rfl
              simp only [Instr.makeSlice, Sem.run_bind, run_und C.w hi.und, Result.andThen_ok, asInt, asIntOf, Sem.run_pure, run_ti C.w hi'.info, hby, hw, Sem.run_ite]
              rw [if_neg (by
                have e1 : ¬ (n < 0) := by omega
                have e2 : (by' : Int) * n ≤ 281474976710656 := by rw [Int.mul_comm]; exact h1
                simp [e1]; omega)]
              simp only [run_askRoom, Result.andThen_ok, run_sz C.w hi'.info, hsz, Sem.run_bind, newRow, run_newObj, Sem.run_pure, World.alloc_eq]
              by_cases hh : n.toNat * sh.size = 0
              · simp only [hh, if_true] at hrg ⊢
                rw [← hrg]; rfl
              · simp only [hh, if_false] at hrg ⊢
                simp only [Sem.run_bind, run_zero C.w hi'.info hz, Result.andThen_ok, Sem.run_pure, run_newObj, World.alloc_eq, hrg]
            rcases h with h | h
            · have hrow := new_row hC (k := .row) (push_pre C.w (.cells (Builtin.zeroCells zv.cells n.toNat ++ #[]) e)) rfl rfl rfl (alloc_last _ _) (.inl rfl) (fun o x hx => by simp at hx) hlay hp
                (cap := n.toNat) (by simp [zeroCells_size, hzsz]) (by simp) (fun hh => by cases hh)
              simp only [List.length_replicate] at hrow
              refine Snd.mk h hrow ?_
              rw [hexec, Array.append_empty]
            · refine ⟨_, _, h, Yield.of (C' := { C with w := C.w.alloc (.cells (Builtin.zeroCells zv.cells n.toNat) e) }) (v := .slice (some ⟨C.w.heap.size, 0, none⟩) n.toNat n.toNat) hexec
                (grow_ext hC (C.w.alloc (.cells (Builtin.zeroCells zv.cells n.toNat) e)) (push_pre _ _) (by simp) rfl rfl rfl)
                (grow_hrep hC (push_pre C.w (.cells (Builtin.zeroCells zv.cells n.toNat) e)) (by simp) rfl rfl rfl) ?_⟩
              have := new_list hC (e := e) hlay
              simp only [List.length_replicate] at this
              exact this
          · exact h.elim
        · exact h.elim
      · exact h.elim
    · exact h.elim
  · exact h.elim

end
end Go.Bv
