/- Part of the lift: an abstract walk of the program's code, proved sound, and what it shows of this program. -/
import Derived.Test.YtjgmoglhbdgmpaaGreatPart0
import Derived.Laws.Slices
namespace Go.Bv
open Go
section
variable {P : Program} (Γ : Tab P) {C : Ctx} (hC : HRep C) {a : Act} {fr : Fr} (hf : FrOk C a fr) {o : Oper} {next : AV → List Blk → Prop}
include hC hf
theorem snd_unOp {op : UnOp} {t : TypeId} {x : Operand} (ho : o.op = .unOp op t x) (h : aop Γ fr (.unOp op t x) C.H next) : Snd P o a C next := by
 simp only [aop] at h
 have hx := hf.ev x
 unfold aopUn at h
 split at h
 ·split at h
  ·rename_i b hxe
   rw [hxe] at hx
   have hx := hx.bool
   rcases h.elim with ⟨e, g⟩ | ⟨e, g⟩ <;> subst e <;>
    exact ⟨_, _, g, Yield.same hC (by simp only [execOp, ho, hx, Op.unary]; rfl) (RP.bool (w := C.w) (G := C.G) _).RT⟩
  ·exact h.elim
 ·split at h
  ·rename_i k n hxe
   rw [hxe] at hx
   have hx := hx.int
   obtain ⟨z, rfl, g⟩ := h
   exact ⟨_, _, g, Yield.same hC (by simp only [execOp, ho, hx, Op.unary, Op.intArith]; rfl) (RP.int (w := C.w) (G := C.G) _ _).RT⟩
  ·exact h.elim
 ·split at h
  ·rename_i k n hxe
   rw [hxe] at hx
   have hx := hx.int
   exact ⟨_, _, h, Yield.same hC (by simp only [execOp, ho, hx, Op.unary, Op.intBits]; rfl) (RP.int (w := C.w) (G := C.G) _ _).RT⟩
  ·exact h.elim
 ·exact h.elim
theorem snd_extract {x : Operand} {i : Nat} (ho : o.op = .extract x i) (h : aop Γ fr (.extract x i) C.H next) : Snd P o a C next := by
 simp only [aop] at h
 have hx := hf.ev x
 split at h
 ·rename_i vs hxe
  rw [hxe] at hx
  obtain ⟨us, hu, hsz, hc⟩ := hx
  split at h
  ·rename_i r hr
   rw [force_eq] at h
   obtain ⟨hlt, hr'⟩ := List.getElem?_eq_some_iff.1 hr
   have hi : us[i]? = some (us.getD i undef) := by simp [Array.getD_eq_getD_getElem?, Array.getElem?_eq_getElem (show i < us.size by omega)]
   have hra := hc i hlt
   rw [hr'] at hra
   by_cases ht : ∃ ws, r = .tup ws
   ·obtain ⟨ws, rfl⟩ := ht
    exact hra.elim
   ·refine ⟨_, _, h, Yield.same hC (v := us.getD i undef) (by simp only [execOp, ho, hu, Instr.extract, hi, Sem.run_bind, Sem.run_pure, Result.andThen_ok]) ?_⟩
    cases r <;> first | exact hra | exact absurd ⟨_, rfl⟩ ht
  ·exact h.elim
 ·exact h.elim
omit hC hf in
theorem evArgs_elim : ∀ (l : List Operand) (k : List AV → Prop), evArgs fr l k → k (l.map (ev fr))
 | [], k, h => h
 | x :: r, k, h => by
  simp only [evArgs_cons] at h
  rw [force_eq] at h
  exact evArgs_elim r _ h
omit hC hf in
theorem evArgsT_elim {H : List Blk} : ∀ (l : List Operand) (k : List AV → Prop), evArgsT fr H l k → k (l.map fun x => thaw H (ev fr x))
 | [], k, h => h
 | x :: r, k, h => by
  simp only [evArgsT_cons] at h
  rw [forceT_eq] at h
  exact evArgsT_elim r _ h
theorem snd_makeFunc {f : Fn} {first caps : Array Operand} (ho : o.op = .makeFunc f first caps) (h : aop Γ fr (.makeFunc f first caps) C.H next)
 : Snd P o a C next := by
  simp only [aop] at h
  split at h
  · rename_i g
    split at h
    · rename_i hfst
      have h := evArgs_elim _ _ h
      have hfst : first = #[] := by apply Array.ext'; simpa using hfst
      subst hfst
      split at h
      case h_2 => exact h.elim
      rename_i hall
      rw [List.all_eq_true] at hall
      refine ⟨_, _, h, Yield.same hC (v := .func (.func g) #[] (caps.map a.eval)) (by simp only [execOp, ho, Instr.makeFunc, Sem.run_bind, Sem.run_pure, Result.andThen_ok, Array.map_empty]) ?_⟩
      refine ⟨caps.map a.eval, rfl, by simp, fun i hi => ?_⟩
      simp only [List.length_map, Array.length_toList] at hi
      simp only [List.getElem_map, Array.getElem_toList, Array.getD_eq_getD_getElem?, Array.getElem?_map, Array.getElem?_eq_getElem hi, Option.map_some, Option.getD_some]
      have h1 := hall (ev fr caps[i]) (List.mem_map.2 ⟨_, by rw [Array.mem_toList_iff]; exact Array.getElem_mem hi, rfl⟩)
      have h2 := hf.ev caps[i]
      generalize ev fr caps[i] = q at h1 h2
      cases q <;> first | exact h2 | (simp [AV.leafy] at h1)
    · exact h.elim
  · exact h.elim
omit hC hf in
theorem R1_slice {C : Ctx} {vs : Array Value} {cs : List AV} (hsz : vs.size = cs.length) (hc : ∀ (i : Nat) (h : i < cs.length), R1 C (vs.getD i undef) cs[i])
  (ho : ∀ (i : Nat) (x : Value), vs[i]? = some x → x.oneCell' = true) (off n : Nat) (h : off + n ≤ cs.length) : RA C (.agg (vs.extract off (off + n))) (.agg ((cs.drop off).take n)) := by
 refine ⟨_, rfl, by simp; omega, fun i hi => ?_, fun i x hx => ?_⟩
 ·simp at hi
  have e : (vs.extract off (off + n)).getD i undef = vs.getD (off + i) undef := by
   simp only [Array.getD_eq_getD_getElem?, Array.getElem?_extract]
   rw [if_pos (by omega)]
  rw [e]
  simp only [List.getElem_take, List.getElem_drop]
  exact hc (off + i) (by omega)
 ·rw [Array.getElem?_extract] at hx
  split at hx
  ·exact ho _ x hx
  ·simp at hx
omit hC hf in
theorem shOf_eq {t : TypeId} {d : TypeDesc} (h : P.underlying t = some d) : shOf P t = if isAggD d then .agg (P.cellsOf t) else .leaf := by
 simp [shOf, h]
omit hC hf in
theorem cellsOf_eq {t : TypeId} {i : TypeInfo} (h : P.info? t = some i) : P.cellsOf t = i.size := by simp [Program.cellsOf, h]
omit hC hf in
theorem und_info {t : TypeId} {d : TypeDesc} (h : P.underlying t = some d) : ∃ i, P.info? t = some i := by
 unfold Program.underlying at h
 cases hi : P.info? t with
 | none => rw [hi] at h; simp at h
 | some i => exact ⟨i, rfl⟩
omit hC hf in
theorem RP.at_inv {w : World} {G : Nat → Prop} {u : Value} {s : Sh} {e : AV} {k : Nat} (h : RP w G u (.at s e k)) : ∃ b o v, u = .pointer (some ⟨b, o + k, none⟩) ∧ G b ∧ RP w G v e ∧ okSh v s ∧
  ∀ j, j < s.size → w.cell? ⟨b, o + j, none⟩ = v.cells[j]? := by
 cases h with
 | «at» sh b o k v x hb hr hs hcell => exact ⟨b, o, v, rfl, hb, hr, hs, hcell⟩
/-- The type of a field: what the run asks of it. -/
theorem snd_field {t : TypeId} {x : Operand} {f : Nat} (ho : o.op = .field t x f) (h : aop Γ fr (.field t x f) C.H next) : Snd P o a C next := by
 simp only [aop] at h
 have hx := hf.ev x
 split at h
 ·rename_i sh by' fs eqs ze hti
  obtain ⟨i, d, hi⟩ := Γ.info hti
  obtain ⟨fields, rfl, hfs, _, hu⟩ := hi.struct rfl
  split at h
  ·rename_i off fsh hfo
   rw [hfs, List.getElem?_map, Option.map_eq_some_iff] at hfo
   obtain ⟨fl, hfl, hfo⟩ := hfo
   rw [Array.getElem?_toList] at hfl
   obtain ⟨d', hd', hd1⟩ := hu fl (by rw [Array.mem_toList_iff]; exact Array.mem_of_getElem? hfl)
   obtain ⟨i', hi'⟩ := und_info hd'
   obtain ⟨rfl, rfl⟩ := Prod.mk.inj hfo
   split at h
   ·rename_i cs hxe
    rw [hxe] at hx
    obtain ⟨us, hus, hsz, hc, hone⟩ := hx.agg
    rw [shOf_eq hd'] at h
    have run0 : ∀ v, (part fl.type us fl.offset).run P C.w = .ok v C.w → (execOp a.eval o).run P C.w = .ok (.value v) C.w := by
     intro v hv
     simp only [execOp, ho, hus]
     simp only [Instr.field, Sem.run_bind, run_und C.w hi.und, Result.andThen_ok, hfl, asAgg, Sem.run_pure, hv]
    cases hag : isAggD d' with
    | false =>
     rw [hag] at h
     simp only [Bool.false_eq_true, if_false] at h
     split at h
     ·rename_i r hr
      rw [force_eq] at h
      obtain ⟨hlt, hr'⟩ := List.getElem?_eq_some_iff.1 hr
      have hv : us[fl.offset]? = some (us.getD fl.offset undef) := by simp [Array.getD_eq_getD_getElem?, Array.getElem?_eq_getElem (show fl.offset < us.size by omega)]
      have hr1 := hc fl.offset hlt
      rw [hr'] at hr1
      exact ⟨_, _, h, Yield.same hC (run0 _ (run_part_leaf hd' hag hv C.w)) hr1.RT'⟩
     ·exact h.elim
    | true =>
     rw [hag] at h
     simp only [if_true] at h
     split at h
     ·rename_i hle
      have hle := Nat.le_of_ble_eq_true hle
      refine ⟨_, _, h, Yield.same hC (v := .agg (us.extract fl.offset (fl.offset + P.cellsOf fl.type))) (run0 _ ?_) (R1_slice hsz hc hone _ _ hle)⟩
      simp only [part, Sem.run_bind, run_isAgg C.w hd', hag, Result.andThen_ok, if_true, run_sz C.w hi', cellsOf_eq hi', Sem.run_pure]
     ·exact h.elim
   ·exact h.elim
  ·exact h.elim
 ·exact h.elim
omit hC hf in
theorem addr_add (b o n : Nat) : Addr.add ⟨b, o, none⟩ n = ⟨b, o + n, none⟩ := by
 unfold Addr.add; split
 ·rename_i h; subst h; rfl
 ·rfl
theorem snd_fieldAddr {t : TypeId} {x : Operand} {f : Nat} (ho : o.op = .fieldAddr t x f) (h : aop Γ fr (.fieldAddr t x f) C.H next) : Snd P o a C next := by
 simp only [aop] at h
 have hx := hf.ev x
 split at h
 ·rename_i sh by' fs eqs ze hti
  obtain ⟨i, d, hi⟩ := Γ.info hti
  obtain ⟨fields, rfl, hfs, _, hu⟩ := hi.struct rfl
  split at h
  ·rename_i off fsh hfo
   rw [hfs, List.getElem?_map, Option.map_eq_some_iff] at hfo
   obtain ⟨fl, hfl, hfo⟩ := hfo
   rw [Array.getElem?_toList] at hfl
   obtain ⟨d', hd', hd1⟩ := hu fl (by rw [Array.mem_toList_iff]; exact Array.mem_of_getElem? hfl)
   obtain ⟨i', hi'⟩ := und_info hd'
   obtain ⟨rfl, rfl⟩ := Prod.mk.inj hfo
   split at h
   ·exact h.elim
   ·rename_i n hn
    have hsz : i'.size ≠ 0 := by
     intro h0
     apply hn
     rw [shOf_eq hd']
     cases hag : isAggD d' with
     | false => have := hd1 hag; rw [cellsOf_eq hi'] at this; omega
     | true => simp [Sh.size, cellsOf_eq hi', h0]
    have fin : ∀ {b q : Nat} {r : AV}, a.eval x = .pointer (some ⟨b, q, none⟩) → next r C.H → RT C (.pointer (some ⟨b, q + fl.offset, none⟩)) r → Snd P o a C next := by
     intro b q r hp hn hr
     refine ⟨r, _, hn, Yield.same hC (v := .pointer (some ⟨b, q + fl.offset, none⟩)) ?_ hr⟩
     simp only [execOp, ho, hp, Instr.fieldAt, Sem.run_bind, run_und C.w hi.und, Result.andThen_ok, hfl, Instr.sureAddr, Sem.run_pure, fieldPlace, run_sz C.w hi', Sem.run_ite, if_neg hsz, addr_add]
    split at h
    ·rename_i id j k hxe
     split at h
     ·rename_i kk s es hid
      rw [hxe] at hx
      refine fin (hx.ptr hid) h ⟨rfl, hx.2.1, fun kk' s' es' he => ?_⟩
      rw [hid] at he; cases he
      rw [Nat.add_assoc]
     ·exact h.elim
    ·rename_i s e k hxe
     rw [hxe] at hx
     obtain ⟨b, o', v, hv, hb, hr, hs, hcell⟩ := RP.at_inv hx
     refine fin hv h ?_
     have := RP.at (w := C.w) (G := C.G) s b o' (k + fl.offset) v e hb hr hs hcell
     rwa [← Nat.add_assoc] at this
    ·exact h.elim
  ·exact h.elim
 ·exact h.elim
theorem snd_index {t : TypeId} {x ix : Operand} (ho : o.op = .index t x ix) (h : aop Γ fr (.index t x ix) C.H next) : Snd P o a C next := by
 simp only [aop] at h
 have hx := hf.ev x
 have hix := hf.ev ix
 split at h
 ·rename_i sh by' ze hti
  obtain ⟨i, d, hi⟩ := Γ.info hti
  have hd := hi.str rfl; subst hd
  split at h
  ·rename_i s hxe
   rw [hxe] at hx
   obtain ⟨b, hb, rfl⟩ := hx.str
   unfold intA at h
   split at h
   ·rename_i k n hie
    rw [hie] at hix
    have hix := hix.int
    obtain ⟨⟨h0, h1⟩, h⟩ := h
    simp only [Array.length_toList] at h1
    have hb1 : n.toNat < b.size := h1
    refine ⟨_, _, h, Yield.same hC (v := .int .u8 ((b.data.toList.getD n.toNat 0).toNat)) ?_ (RP.int (w := C.w) (G := C.G) _ _).RT⟩
    simp only [execOp, ho, hb, hix]
    have e : b[n.toNat]? = some (b.data.toList.getD n.toNat 0) := by
     rw [getElem?_pos b n.toNat hb1]
     simp only [List.getD_eq_getElem?_getD, Array.getElem?_toList]
     rw [Array.getElem?_eq_getElem h1]
     rfl
    simp only [Instr.index, asIntOf, Sem.run_bind, Sem.run_pure, Result.andThen_ok, run_und C.w hi.und, if_pos h0, e]
   ·exact h.elim
  ·exact h.elim
 ·exact h.elim
theorem snd_len {t : TypeId} {x : Operand} {ct : Array TypeId} {ca : Array Operand} (ho : o.op = .call ⟨.builtin .len, ca, ct⟩) (hct : ct.toList = [t]) (hca : ca.toList = [x])
  (h : aop Γ fr (.call ⟨.builtin .len, ca, ct⟩) C.H next) : Snd P o a C next := by
 simp only [aop, hct, hca] at h
 have hx := hf.evT x
 have hct : ct = #[t] := by apply Array.ext'; simpa using hct
 have hca : ca = #[x] := by apply Array.ext'; simpa using hca
 subst hct hca
 have run0 : ∀ v, (Builtin.len_ #[t] o.type #[a.eval x]).run P C.w = .ok v C.w → (execOp a.eval o).run P C.w = .ok (.value v) C.w := by
  intro v hv
  simp only [execOp, ho, resolve, Sem.run_bind, Sem.run_pure, Result.andThen_ok, invoke, builtin, List.map_toArray, List.map_cons, List.map_nil, hv]
 split at h
 ·rename_i sh by' ze s hti hxe
  obtain ⟨i, d, hi⟩ := Γ.info hti
  have hd := hi.str rfl; subst hd
  rw [hxe] at hx
  obtain ⟨b, hb, rfl⟩ := hx.str
  refine ⟨_, _, h, Yield.same hC (v := .int .i64 b.data.toList.length) (run0 _ ?_) (RP.int (w := C.w) (G := C.G) _ _).RT⟩
  simp [Builtin.len_, run_und C.w hi.und, hb, goInt]
 ·rename_i sh by' e ze hti hxe
  obtain ⟨i, d, hi⟩ := Γ.info hti
  have hd := hi.slice rfl; subst hd
  rw [hxe] at hx
  have hb := hx.nils
  refine ⟨_, _, h, Yield.same hC (v := .int .i64 0) (run0 _ ?_) (RP.int (w := C.w) (G := C.G) _ _).RT⟩
  simp [Builtin.len_, run_und C.w hi.und, hb, goInt]
 ·rename_i sh by' e ze sh' l hti hxe
  obtain ⟨i, d, hi⟩ := Γ.info hti
  have hd := hi.slice rfl; subst hd
  rw [hxe] at hx
  have hx : RP C.w C.G (a.eval x) (.list sh' l) := hx
  obtain ⟨ad, c, hb⟩ : ∃ ad c, a.eval x = .slice ad l.length c := by
   generalize a.eval x = u at hx
   cases hx <;> exact ⟨_, _, rfl⟩
  refine ⟨_, _, h, Yield.same hC (v := .int .i64 l.length) (run0 _ ?_) (RP.int (w := C.w) (G := C.G) _ _).RT⟩
  simp [Builtin.len_, run_und C.w hi.und, hb, goInt]
 ·rename_i sh by' e ze id off len hti hxe
  obtain ⟨i, d, hi⟩ := Γ.info hti
  have hd := hi.slice rfl; subst hd
  rw [hxe] at hx
  obtain ⟨_, _, hx, _⟩ := hx
  split at h
  ·rename_i kk s es hid
   obtain ⟨ad, c, hb⟩ : ∃ ad c, a.eval x = .slice ad len c := by
    by_cases hl : (Blk.row kk s es).live
    ·obtain ⟨cap, hv, _⟩ := (hx kk s es hid).2 hl
     exact ⟨_, _, hv⟩
    ·obtain ⟨ad, hv, h0⟩ := (hx kk s es hid).1 hl
     subst h0; exact ⟨_, _, hv⟩
   refine ⟨_, _, h, Yield.same hC (v := .int .i64 len) (run0 _ ?_) (RP.int (w := C.w) (G := C.G) _ _).RT⟩
   simp [Builtin.len_, run_und C.w hi.und, hb, goInt]
  ·exact h.elim
 ·exact h.elim
theorem snd_cap {t : TypeId} {x : Operand} {ct : Array TypeId} {ca : Array Operand} (ho : o.op = .call ⟨.builtin .cap, ca, ct⟩) (hct : ct.toList = [t]) (hca : ca.toList = [x])
  (h : aop Γ fr (.call ⟨.builtin .cap, ca, ct⟩) C.H next) : Snd P o a C next := by
 simp only [aop, hct, hca] at h
 have hx := hf.ev x
 have hct : ct = #[t] := by apply Array.ext'; simpa using hct
 have hca : ca = #[x] := by apply Array.ext'; simpa using hca
 subst hct hca
 have run0 : ∀ v, (Builtin.cap_ #[t] o.type #[a.eval x]).run P C.w = .ok v C.w → (execOp a.eval o).run P C.w = .ok (.value v) C.w := by
  intro v hv
  simp only [execOp, ho, resolve, Sem.run_bind, Sem.run_pure, Result.andThen_ok, invoke, builtin, List.map_toArray, List.map_cons, List.map_nil, hv]
 split at h
 ·rename_i sh by' e ze hti hxe
  obtain ⟨i, d, hi⟩ := Γ.info hti
  have hd := hi.slice rfl; subst hd
  rw [hxe] at hx
  have hb := hx.nils
  refine ⟨_, _, h, Yield.same hC (v := .int .i64 0) (run0 _ ?_) (RP.int (w := C.w) (G := C.G) _ _).RT⟩
  simp [Builtin.cap_, run_und C.w hi.und, hb, goInt]
 ·exact h.elim
omit hC hf in
theorem foldMax_some {C : Ctx} : ∀ (l : List Operand) (m n : Int), foldMax (l.map (ev fr)) (some m) = some n → FrOk C a fr → (w : World) →
  (List.foldlM Builtin.max2 (.int .i64 m) (l.map a.eval)).run P w = .ok (.int .i64 n) w
 | [], m, n, h, _, w => by simp [foldMax] at h; simp [h]
 | x :: l, m, n, h, hf, w => by
  have hx := hf.ev x
  simp only [List.map_cons] at h ⊢
  generalize ev fr x = q at h hx
  cases q with
  | int k v =>
   cases k with
   | i64 =>
    have h : foldMax (l.map (ev fr)) (some (max m v)) = some n := h
    have hx := hx.int
    have : (Builtin.max2 (.int .i64 m) (a.eval x)).run P w = .ok (.int .i64 (max m v)) w := by
     rw [hx]; simp only [Builtin.max2, Sem.run_pure]; congr 2; omega
    rw [List.foldlM_cons, Sem.run_bind, this]
    exact foldMax_some l _ _ h hf w
   | _ => simp [foldMax] at h
  | _ => simp [foldMax] at h
omit hC hf in
theorem foldMin_some {C : Ctx} : ∀ (l : List Operand) (m n : Int), foldMin (l.map (ev fr)) (some m) = some n → FrOk C a fr → (w : World) →
  (List.foldlM Builtin.min2 (.int .i64 m) (l.map a.eval)).run P w = .ok (.int .i64 n) w
 | [], m, n, h, _, w => by simp [foldMin] at h; simp [h]
 | x :: l, m, n, h, hf, w => by
  have hx := hf.ev x
  simp only [List.map_cons] at h ⊢
  generalize ev fr x = q at h hx
  cases q with
  | int k v =>
   cases k with
   | i64 =>
    have h : foldMin (l.map (ev fr)) (some (min m v)) = some n := h
    have hx := hx.int
    have : (Builtin.min2 (.int .i64 m) (a.eval x)).run P w = .ok (.int .i64 (min m v)) w := by
     rw [hx]; simp only [Builtin.min2, Sem.run_pure]; congr 2; omega
    rw [List.foldlM_cons, Sem.run_bind, this]
    exact foldMin_some l _ _ h hf w
   | _ => simp [foldMin] at h
  | _ => simp [foldMin] at h
theorem snd_max {ct : Array TypeId} {ca : Array Operand} (ho : o.op = .call ⟨.builtin .max, ca, ct⟩) (h : aop Γ fr (.call ⟨.builtin .max, ca, ct⟩) C.H next) : Snd P o a C next := by
 simp only [aop] at h
 have h := evArgs_elim _ _ h
 split at h
 ·rename_i n hn
  refine ⟨_, _, h, Yield.same hC (v := .int .i64 n) ?_ (RP.int (w := C.w) (G := C.G) _ _).RT⟩
  have hm : (Builtin.max_ ct o.type (ca.map a.eval)).run P C.w = .ok (.int .i64 n) C.w := by
   simp only [Builtin.max_, Array.toList_map]
   cases hl : ca.toList with
   | nil => rw [hl] at hn; simp [foldMax] at hn
   | cons x l =>
    rw [hl] at hn
    have hx := hf.ev x
    simp only [List.map_cons] at hn ⊢
    generalize ev fr x = q at hn hx
    cases q with
    | int k v =>
     cases k with
     | i64 =>
      have hn : foldMax (l.map (ev fr)) (some v) = some n := hn
      rw [hx.int]
      exact foldMax_some l _ _ hn hf C.w
     | _ => simp [foldMax] at hn
    | _ => simp [foldMax] at hn
  simp only [execOp, ho, resolve, Sem.run_bind, Sem.run_pure, Result.andThen_ok, invoke, builtin, hm]
 ·exact h.elim
theorem snd_min {ct : Array TypeId} {ca : Array Operand} (ho : o.op = .call ⟨.builtin .min, ca, ct⟩) (h : aop Γ fr (.call ⟨.builtin .min, ca, ct⟩) C.H next) : Snd P o a C next := by
 simp only [aop] at h
 have h := evArgs_elim _ _ h
 split at h
 ·rename_i n hn
  refine ⟨_, _, h, Yield.same hC (v := .int .i64 n) ?_ (RP.int (w := C.w) (G := C.G) _ _).RT⟩
  have hm : (Builtin.min_ ct o.type (ca.map a.eval)).run P C.w = .ok (.int .i64 n) C.w := by
   simp only [Builtin.min_, Array.toList_map]
   cases hl : ca.toList with
   | nil => rw [hl] at hn; simp [foldMin] at hn
   | cons x l =>
    rw [hl] at hn
    have hx := hf.ev x
    simp only [List.map_cons] at hn ⊢
    generalize ev fr x = q at hn hx
    cases q with
    | int k v =>
     cases k with
     | i64 =>
      have hn : foldMin (l.map (ev fr)) (some v) = some n := hn
      rw [hx.int]
      exact foldMin_some l _ _ hn hf C.w
     | _ => simp [foldMin] at hn
    | _ => simp [foldMin] at hn
  simp only [execOp, ho, resolve, Sem.run_bind, Sem.run_pure, Result.andThen_ok, invoke, builtin, hm]
 ·exact h.elim
omit hC hf in
theorem run_loadVar_leaf {t : TypeId} {d : TypeDesc} (h : P.underlying t = some d) (hd : isAggD d = false) {w : World} {ad : Addr} {v : Value} (hv : w.cell? ad = some v) :
  (loadVar t ad).run P w = .ok v w := by
 simp only [loadVar, Sem.run_bind, run_isAgg w h, hd, Result.andThen_ok, Bool.false_eq_true, if_false, run_load, hv]
omit hC hf in
theorem run_loadVar_agg {t : TypeId} {d : TypeDesc} {i : TypeInfo} (h : P.underlying t = some d) (hi : P.info? t = some i) (hd : isAggD d = true) {w : World} {b o : Nat} {cs : Array Value} (hn : cs.size = i.size)
  (hv : ∀ j, j < cs.size → w.cell? ⟨b, o + j, none⟩ = cs[j]?) :
  (loadVar t ⟨b, o, none⟩).run P w = .ok (.agg cs) w := by
 simp only [loadVar, Sem.run_bind, run_isAgg w h, hd, Result.andThen_ok, if_true, run_sz w hi, ← hn, run_loadCells_rep hv, Sem.run_pure]
omit hC hf in
theorem loadPart_snd {t : TypeId} {ti : TI} {i : TypeInfo} {d : TypeDesc} (hi : TInfo P t ti i d) {sh : Sh} {x : AV} {k : Nat} {nx : AV → Prop} (h : loadPart sh ti.sh x k nx)
  {v : Value} (hv : RA C v x) (hs : okSh v sh) {b o : Nat} (hcell : ∀ j, j < sh.size → C.w.cell? ⟨b, o + j, none⟩ = v.cells[j]?) :
  ∃ r u, nx r ∧ RA C u r ∧ (loadVar t ⟨b, o + k, none⟩).run P C.w = .ok u C.w := by
 unfold loadPart at h
 have hsize := hs.size
 split at h
 ·rename_i hb
  rw [force_eq] at h
  simp only [Bool.and_eq_true] at hb
  have hk := Nat.eq_of_beq_eq_true hb.1
  have hsh := Sh.beq_eq hb.2
  subst hk
  refine ⟨x, v, h, hv, ?_⟩
  rw [← hsh] at hs hcell hsize
  have hshd := hi.sh
  cases hag : isAggD d with
  | false =>
   rw [hag] at hshd; simp only [Bool.false_eq_true, if_false] at hshd
   rw [hshd] at hs hcell
   have h1 : v.cells = #[v] := cells_one hs
   have := hcell 0 (by simp [Sh.size])
   rw [h1] at this
   exact run_loadVar_leaf hi.und hag (by simpa using this)
  | true =>
   rw [hag] at hshd; simp only [if_true] at hshd
   rw [hshd] at hs hcell hsize
   obtain ⟨cs, rfl, hcs, _⟩ := hs
   exact run_loadVar_agg hi.und hi.info hag hcs (fun j hj => hcell j (by simp [Sh.size]; omega))
 ·split at h
  ·rename_i cs
   obtain ⟨us, rfl, husz, huc, hone⟩ := hv
   have hsz : us.size = sh.size := by simpa [Value.cells] using hsize
   have hcell' : ∀ j, j < us.size → C.w.cell? ⟨b, o + j, none⟩ = us[j]? := fun j hj => hcell j (by omega)
   split at h
   ·rename_i hleaf
    split at h
    ·rename_i r hr
     rw [force_eq] at h
     obtain ⟨hlt, hr'⟩ := List.getElem?_eq_some_iff.1 hr
     have hc := huc k hlt
     rw [hr'] at hc
     have hag : isAggD d = false := by
      have := hi.sh; rw [hleaf] at this
      cases hg : isAggD d with
      | false => rfl
      | true => rw [hg] at this; simp at this
     have hkl : k < us.size := by omega
     refine ⟨r, us.getD k undef, h, ?_, run_loadVar_leaf hi.und hag ?_⟩
     ·have := hc.nag.1
      cases r <;> first | exact hc | exact absurd rfl (this _)
     ·rw [hcell' k hkl]; simp [Array.getD_eq_getD_getElem?, Array.getElem?_eq_getElem hkl]
    ·exact h.elim
   ·rename_i n hn
    split at h
    ·rename_i hle
     have hle := Nat.le_of_ble_eq_true hle
     have hag : isAggD d = true ∧ i.size = n := by
      have := hi.sh; rw [hn] at this
      cases hg : isAggD d with
      | false => rw [hg] at this; simp at this
      | true => rw [hg] at this; simp only [if_true, Sh.agg.injEq] at this; exact ⟨rfl, this.symm⟩
     refine ⟨_, .agg (us.extract k (k + n)), h, R1_slice husz huc hone _ _ hle, ?_⟩
     refine run_loadVar_agg hi.und hi.info hag.1 (by simp; omega) (fun j hj => ?_)
     simp at hj
     rw [Nat.add_assoc, hcell' (k + j) (by omega), Array.getElem?_extract, if_pos (by omega)]
    ·exact h.elim
  ·exact h.elim
theorem snd_load {t : TypeId} {x : Operand} (ho : o.op = .load t x) (h : aop Γ fr (.load t x) C.H next) : Snd P o a C next := by
 simp only [aop] at h
 have hx := hf.ev x
 split at h
 ·rename_i sh by' kd ze hti
  obtain ⟨i, d, hi⟩ := Γ.info hti
  have fin : ∀ {b o' : Nat} {r : AV} {u : Value}, a.eval x = .pointer (some ⟨b, o', none⟩) → next r C.H → RA C u r → (loadVar t ⟨b, o', none⟩).run P C.w = .ok u C.w → Snd P o a C next := by
   intro b o' r u hp hn hr hrun
   refine ⟨r, _, hn, Yield.same hC (v := u) (by simp only [execOp, ho, hp, Instr.loadAt, Instr.sureAddr, Sem.run_bind, Sem.run_pure, Result.andThen_ok, hrun]) ?_⟩
   cases r <;> first | exact hr | exact hr.elim
  have rowCase : ∀ {id j k : Nat} {kk : RK} {s : Sh} {es : List AV} {e : AV}, ev fr x = .ptr id j k → C.H[id]? = some (.row kk s es) → es[j]? = some e → loadPart s sh e k (fun a => next a C.H) → Snd P o a C next := by
   intro id j k kk s es e hxe hid he hl
   rw [hxe] at hx
   have hp := hx.ptr hid
   obtain ⟨hlt, rfl⟩ := List.getElem?_eq_some_iff.1 he
   have hlive : (Blk.row kk s es).live := by cases kk <;> simp [Blk.live]; intro h0; subst h0; simp at hlt
   obtain ⟨c, T, fz, hc, _, hle, _, hel⟩ := hC.row id kk s es hid hlive
   obtain ⟨v, hv, _, hs, hcell⟩ := hel j hlt
   have hsp := hC.sz id kk s es hid
   obtain ⟨r, u, hn, hu, hrun⟩ := loadPart_snd (P := P) hi hl hv hs (b := C.β id) (o := j * s.size) (fun q hq => by
    simp only [World.cell?, hc, Option.isSome_none, Bool.false_eq_true, if_false]; exact hcell q hq)
   exact fin hp hn hu hrun
  split at h
  ·rename_i id j k hxe
   split at h
   ·rename_i s e hid
    split at h
    ·exact rowCase hxe hid rfl h
    ·exact h.elim
   ·rename_i s es hid
    obtain ⟨e, he, h⟩ := h
    exact rowCase hxe hid he h
   ·rename_i s es hid
    obtain ⟨e, he, h⟩ := h
    exact rowCase hxe hid he h
   ·exact h.elim
  ·rename_i s e k hxe
   rw [hxe] at hx
   obtain ⟨b, o', v, hv, hb, hr, hs, hcell⟩ := RP.at_inv hx
   obtain ⟨r, u, hn, hu, hrun⟩ := loadPart_snd (P := P) hi h hr.RA hs hcell
   exact fin hv hn hu hrun
  ·exact h.elim
 ·exact h.elim
end
end Go.Bv
namespace Go.Bv
open Go
/-- Cells that hold elements, one behind the other. -/
def Lay (w : World) (G : Nat → Prop) (sh : Sh) (cells : Array Value) (l : List AV) : Prop :=
 cells.size = l.length * sh.size ∧ ∀ (i : Nat) (h : i < l.length), ∃ v, RP w G v l[i] ∧ okSh v sh ∧ ∀ j, j < sh.size → cells[i * sh.size + j]? = v.cells[j]?
theorem Lay.mono {w w' : World} {G G' : Nat → Prop} (h : ∀ b, G b → G' b ∧ w'.heap[b]? = w.heap[b]?) {sh : Sh} {cells : Array Value} {l : List AV} (r : Lay w G sh cells l) : Lay w' G' sh cells l :=
 ⟨r.1, fun i hi => let ⟨v, hv, hs, hc⟩ := r.2 i hi; ⟨v, hv.mono h, hs, hc⟩⟩
theorem idx_split {s n q : Nat} (hs : 0 < s) (hq : q < n * s) : q / s < n ∧ q % s < s ∧ q = q / s * s + q % s := by
 refine ⟨Nat.div_lt_of_lt_mul (by rw [Nat.mul_comm]; exact hq), Nat.mod_lt _ hs, ?_⟩
 have := Nat.div_add_mod q s
 rw [Nat.mul_comm] at this
 omega
theorem idx_lt {s n i j : Nat} (hi : i < n) (hj : j < s) : i * s + j < n * s := by
 have h1 : (i + 1) * s ≤ n * s := Nat.mul_le_mul_right s hi
 have h2 : (i + 1) * s = i * s + s := by rw [Nat.add_mul, Nat.one_mul]
 omega
theorem Lay.one {w : World} {G : Nat → Prop} {sh : Sh} {cells : Array Value} {l : List AV} (h : Lay w G sh cells l) (hs : 0 < sh.size) {o : Nat} {x : Value} (hx : cells[o]? = some x) : x.oneCell' = true := by
 have hlt := (Array.getElem?_eq_some_iff.1 hx).1
 rw [h.1] at hlt
 obtain ⟨h1, h2, h3⟩ := idx_split hs hlt
 obtain ⟨v, _, hsh, hc⟩ := h.2 _ h1
 have := hc _ h2
 rw [← h3, hx] at this
 exact hsh.cell_one this.symm
theorem Lay.append {w : World} {G : Nat → Prop} {sh : Sh} {c1 c2 : Array Value} {l1 l2 : List AV} (h1 : Lay w G sh c1 l1) (h2 : Lay w G sh c2 l2) : Lay w G sh (c1 ++ c2) (l1 ++ l2) := by
 refine ⟨by simp [h1.1, h2.1, Nat.add_mul], fun i hi => ?_⟩
 by_cases hlt : i < l1.length
 ·obtain ⟨v, hv, hs, hc⟩ := h1.2 i hlt
  refine ⟨v, by rw [List.getElem_append_left hlt]; exact hv, hs, fun j hj => ?_⟩
  rw [Array.getElem?_append_left (by rw [h1.1]; exact idx_lt hlt hj)]
  exact hc j hj
 ·simp only [List.length_append] at hi
  obtain ⟨v, hv, hs, hc⟩ := h2.2 (i - l1.length) (by omega)
  refine ⟨v, by rw [List.getElem_append_right (by omega)]; exact hv, hs, fun j hj => ?_⟩
  have e : i * sh.size + j = c1.size + ((i - l1.length) * sh.size + j) := by
   have : i * sh.size = l1.length * sh.size + (i - l1.length) * sh.size := by rw [← Nat.add_mul]; congr 1; omega
   rw [h1.1]; omega
  rw [e, Array.getElem?_append_right (by omega), Nat.add_sub_cancel_left]
  exact hc j hj
theorem Lay.nil {w : World} {G : Nat → Prop} {sh : Sh} : Lay w G sh #[] [] := ⟨by simp, fun i hi => by simp at hi⟩
theorem zeroCells_get (z : Array Value) (n q : Nat) (h : q < n * z.size) : (Builtin.zeroCells z n)[q]? = z[q % z.size]? := by
 have hz : 0 < z.size := Nat.pos_of_ne_zero fun h0 => by simp [h0] at h
 have hm : q % z.size < z.size := Nat.mod_lt _ hz
 simp only [Builtin.zeroCells, Array.getElem?_map, Array.getElem?_range]
 rw [if_pos h]
 simp only [Option.map_some]
 rw [Array.getElem!_eq_getD, Array.getD_eq_getD_getElem?, Array.getElem?_eq_getElem hm]; rfl
theorem zeroCells_size (z : Array Value) (n : Nat) : (Builtin.zeroCells z n).size = n * z.size := by simp [Builtin.zeroCells]
theorem Lay.zeros {w : World} {G : Nat → Prop} {sh : Sh} {z : Value} {a : AV} (hz : RP w G z a) (hs : okSh z sh) (n : Nat) : Lay w G sh (Builtin.zeroCells z.cells n) (List.replicate n a) := by
 have hsz := hs.size
 refine ⟨by rw [zeroCells_size, hsz]; simp, fun i hi => ⟨z, by simpa using hz, hs, fun j hj => ?_⟩⟩
 simp at hi
 rw [zeroCells_get _ _ _ (by rw [hsz]; exact idx_lt hi hj), hsz, Nat.add_comm, Nat.add_mul_mod_self_right, Nat.mod_eq_of_lt hj]
theorem zeroCells_one {sh : Sh} {z : Value} (hs : okSh z sh) (n : Nat) {o : Nat} {x : Value} (hx : (Builtin.zeroCells z.cells n)[o]? = some x) : x.oneCell' = true := by
 have hlt := (Array.getElem?_eq_some_iff.1 hx).1
 rw [zeroCells_size] at hlt
 rw [zeroCells_get _ _ _ hlt] at hx
 exact hs.cell_one hx
theorem firstCells_zero {P : Program} {s : Nat} {ad : Option Addr} {c : Nat} (w : World) : (Builtin.firstCells s 0 (.slice ad 0 c)).run P w = .ok #[] w := by
 cases ad with
 | none => rfl
 | some ad => simp only [Builtin.firstCells, Nat.zero_mul]; rfl
theorem elemsOf_elim {H : List Blk} {sh : Sh} {a : AV} {k : List AV → Prop} (h : elemsOf H sh a k) :
  (a = .nils ∧ k []) ∨ (∃ l, a = .list sh l ∧ k l) ∨
   (∃ id off len kk es, a = .own id off len ∧ H[id]? = some (.row kk sh es) ∧ kk ≠ .box ∧ off + len ≤ es.length ∧ k ((es.drop off).take len)) := by
 unfold elemsOf at h
 split at h
 ·exact .inl ⟨rfl, h⟩
 ·split at h
  ·rename_i hb
   have := Sh.beq_eq hb; subst this
   exact .inr (.inl ⟨_, rfl, h⟩)
  ·exact h.elim
 ·split at h
  ·rename_i hid
   split at h
   ·exact h.elim
   ·rename_i hk
    split at h
    ·rename_i hb
     have := Sh.beq_eq hb; subst this
     obtain ⟨h0, h⟩ := h
     exact .inr (.inr ⟨_, _, _, _, _, rfl, hid, fun e => hk e, h0, h⟩)
    ·exact h.elim
  ·exact h.elim
 ·exact h.elim
/-- What a slice value holds, read in any world of the same heap. -/
theorem elems_snd {P : Program} {C : Ctx} (hC : HRep C) {v : Value} {a : AV} (hv : RT C v a) {sh : Sh} (hp : 0 < sh.size) {k : List AV → Prop} (h : elemsOf C.H sh a k) :
  ∃ l cells ad cap, k l ∧ Lay C.w C.G sh cells l ∧ v = .slice ad l.length cap ∧ l.length ≤ cap ∧
   ∀ w', w'.heap = C.w.heap → (Builtin.firstCells sh.size l.length v).run P w' = .ok cells w' := by
 rcases elemsOf_elim h with ⟨rfl, g⟩ | ⟨l, rfl, g⟩ | ⟨id, off, len, kk, es, rfl, hid, hk, hle, g⟩
 ·have := hv.nils; subst this
  exact ⟨[], #[], none, 0, g, .nil, rfl, Nat.le_refl _, fun w' _ => rfl⟩
 ·have hv : RP C.w C.G v (.list sh l) := hv
  cases hv with
  | list0 sh ad c => exact ⟨[], #[], ad, c, g, .nil, rfl, Nat.zero_le _, fun w' _ => firstCells_zero w'⟩
  | list sh b o c l vs hc hb hr hs hcell =>
   let cells : Array Value := Array.ofFn (n := l.length * sh.size) fun q => ((vs (q.val / sh.size)).cells.getD (q.val % sh.size) undef)
   have hsz : cells.size = l.length * sh.size := by simp [cells]
   have hget : ∀ i j, i < l.length → j < sh.size → cells[i * sh.size + j]? = (vs i).cells[j]? := by
    intro i j hi hj
    have hlt := idx_lt hi hj
    rw [Array.getElem?_eq_getElem (by rw [hsz]; exact hlt)]
    simp only [cells, Array.getElem_ofFn]
    have e1 : (i * sh.size + j) / sh.size = i := by
     rw [Nat.add_comm, Nat.add_mul_div_right _ _ hp, Nat.div_eq_of_lt hj, Nat.zero_add]
    have e2 : (i * sh.size + j) % sh.size = j := by
     rw [Nat.add_comm, Nat.add_mul_mod_self_right, Nat.mod_eq_of_lt hj]
    rw [e1, e2, Array.getD_eq_getD_getElem?, Array.getElem?_eq_getElem (by rw [(hs i hi).size]; exact hj)]
    rfl
   refine ⟨l, cells, _, c, g, ⟨hsz, fun i hi => ⟨vs i, hr i hi, hs i hi, fun j hj => hget i j hi hj⟩⟩, rfl, hc, fun w' hw => ?_⟩
   simp only [Builtin.firstCells]
   rw [← hsz]
   refine run_loadCells_rep fun q hq => ?_
   rw [hsz] at hq
   obtain ⟨h1, h2, h3⟩ := idx_split hp hq
   rw [h3, hget _ _ h1 h2, ← hcell _ _ h1 h2, ← Nat.add_assoc]
   simp only [World.cell?, hw]
 ·obtain ⟨_, _, hv, _⟩ := hv
  have hlen : ((es.drop off).take len).length = len := by simp; omega
  by_cases hl : (Blk.row kk sh es).live
  ·obtain ⟨cap, hv, hcap, hes, c, T, fz, hc, hcs⟩ := (hv kk sh es hid).2 hl
   obtain ⟨c', T', fz', hc', _, hle', _, hel⟩ := hC.row id kk sh es hid hl
   rw [hc] at hc'; cases hc'
   have hcs2 : (off + len) * sh.size ≤ c.size := Nat.le_trans (Nat.mul_le_mul_right _ hle) hle'
   have hmul : (off + len) * sh.size = off * sh.size + len * sh.size := Nat.add_mul _ _ _
   have hsz : (c.extract (off * sh.size) ((off + len) * sh.size)).size = len * sh.size := by simp; omega
   refine ⟨_, c.extract (off * sh.size) ((off + len) * sh.size), _, cap, g, ⟨by rw [hlen, hsz], fun i hi => ?_⟩, by rw [hlen]; exact hv, by rw [hlen]; exact hcap, fun w' hw => ?_⟩
   ·rw [hlen] at hi
    obtain ⟨u, _, hp', hs, hcell⟩ := hel (off + i) (by omega)
    refine ⟨u, by simpa using hp' hk, hs, fun j hj => ?_⟩
    have := idx_lt hi hj
    rw [Array.getElem?_extract, if_pos (by omega), ← hcell j hj, Nat.add_mul, Nat.add_assoc]
   ·rw [hlen, hv]
    simp only [Builtin.firstCells]
    rw [← hsz]
    refine run_loadCells_rep fun q hq => ?_
    rw [hsz] at hq
    rw [Array.getElem?_extract, if_pos (by omega)]
    simp only [World.cell?, hw, hc, Option.isSome_none, Bool.false_eq_true, if_false]
  ·obtain ⟨ad, hv1, h0⟩ := (hv kk sh es hid).1 hl
   have e : (es.drop off).take len = [] := by rw [h0]; simp
   rw [e] at g
   exact ⟨[], #[], ad, 0, g, .nil, hv1, Nat.le_refl _, fun w' _ => by rw [hv1]; exact firstCells_zero w'⟩
/-- A new block whose first cells are laid so is a row. -/
theorem Lay.row {C : Ctx} {b : Nat} {k : RK} {sh : Sh} {es : List AV} {cells rest : Array Value} {T : TypeId} {fz : Nat × Nat} (hl : Lay C.w C.G sh cells es) (hp : 0 < sh.size)
  (hb : C.w.heap[b]? = some (.cells (cells ++ rest) T fz)) (hfz : fz.1 = fz.2 ∨ (cells ++ rest).size ≤ fz.1) (hr : ∀ (o : Nat) (x : Value), rest[o]? = some x → x.oneCell' = true) : RowAt C b k sh es := by
 refine ⟨_, T, fz, hb, hfz, by simp [hl.1], fun o x hx => ?_, fun i hi => ?_⟩
 ·rw [Array.getElem?_append] at hx
  split at hx
  ·exact hl.one hp hx
  ·exact hr _ x hx
 ·obtain ⟨v, hv, hs, hc⟩ := hl.2 i hi
  refine ⟨v, hv.RA, fun _ => hv, hs, fun j hj => ?_⟩
  rw [Array.getElem?_append_left (by rw [hl.1]; exact idx_lt hi hj)]
  exact hc j hj
/-- New memory that is not owned. -/
theorem grow_ext {C : Ctx} (hC : HRep C) (w' : World) (hpre : ∀ b, b < C.w.heap.size → w'.heap[b]? = C.w.heap[b]?) (hsz : C.w.heap.size ≤ w'.heap.size)
  (hos : w'.os = C.w.os) (ht : w'.tape = C.w.tape) (ho : w'.output = C.w.output) : Ext C { C with w := w' } where
 F := rfl
 os := hos
 tape := ht
 output := ho
 size := hsz
 len := Nat.le_refl _
 beta := fun _ _ => rfl
 keep := fun b hb _ => hpre b hb
 fresh := fun id k hid hk _ => by
  have := (List.getElem?_eq_some_iff.1 hk).1
  dsimp only at this
  omega
 rows := fun id k sh es _ he => by
  refine ⟨es, he, rfl, fun hl => ?_⟩
  have hlt := hC.lt he hl
  obtain ⟨c, T, fr, hc, _⟩ := hC.row id k sh es he hl
  exact ⟨c, T, fr, c, T, fr, hc, by rw [← hc]; exact hpre _ hlt, rfl⟩
 maps := fun id es _ he => ⟨es, he⟩
 ros := fun id sh es _ he => .inl he
theorem grow_hrep {C : Ctx} (hC : HRep C) {w' : World} (hpre : ∀ b, b < C.w.heap.size → w'.heap[b]? = C.w.heap[b]?) (hsz : C.w.heap.size ≤ w'.heap.size)
  (hos : w'.os = C.w.os) (ht : w'.tape = C.w.tape) (ho : w'.output = C.w.output) : HRep { C with w := w' } := by
 have hE := grow_ext hC w' hpre hsz hos ht ho
 refine ⟨hC.inj, hC.notF, fun b hb => Nat.lt_of_lt_of_le (hC.Flt b hb) hsz, hC.sz, fun id k sh es he hl => ?_, fun id es he => ?_⟩
 ·have hr : RowAt C (C.β id) k sh es := hC.row id k sh es he hl
  exact hr.ext hE (hpre _ (hC.lt he hl))
 ·have hr : MapAt C (C.β id) es := hC.map id es he
  exact hr.ext hE (hpre _ (hC.lt he trivial))
theorem push_pre (w : World) (o : Obj) (b : Nat) (hb : b < w.heap.size) : (w.alloc o).heap[b]? = w.heap[b]? := by
 simp only [World.alloc, Array.getElem?_push]; rw [if_neg (by omega)]
end Go.Bv
namespace Go.Bv
open Go
theorem alloc_last (w : World) (o : Obj) : (w.alloc o).heap[w.heap.size]? = some o := by
 show (w.heap.push o)[w.heap.size]? = some o
 simp
theorem new_box {C : Ctx} (hC : HRep C) {v : Value} {x : AV} {sh : Sh} (hv : RA C v x) (hs : okSh v sh) (hp : 0 < sh.size) (T : TypeId) :
  ∃ C' : Ctx, C'.w = C.w.alloc (.cells v.cells T) ∧ C'.H = C.H ++ [.row .box sh [x]] ∧ Ext C C' ∧ HRep C' ∧ RT C' (.pointer (some ⟨C.w.heap.size, 0, none⟩)) (.ptr C.H.length 0 0) := by
 have hE := add_ext hC (C.w.alloc (.cells v.cells T)) (push_pre _ _) (by simp) rfl rfl rfl C.w.heap.size (Nat.le_refl _) (.row .box sh [x])
 refine ⟨_, rfl, rfl, hE, add_hrep hC (push_pre _ _) (by simp) rfl rfl rfl (Nat.le_refl _) ?_ ?_ ?_, rfl, by simp, ?_⟩
 ·intro kk s es h; cases h; exact hp
 ·intro kk s es h _
  cases h
  refine ⟨v.cells, T, (0, 0), alloc_last _ _, .inl rfl, by simp [hs.size], fun o y hy => hs.cell_one hy, fun i hi => ?_⟩
  simp at hi; subst hi
  exact ⟨v, hE.RA hv, fun h => absurd rfl h, hs, fun j _ => by simp⟩
 ·intro es h; cases h
 ·intro kk s es h
  simp at h
  simp
theorem new_row {C : Ctx} (hC : HRep C) {w' : World} (hpre : ∀ b, b < C.w.heap.size → w'.heap[b]? = C.w.heap[b]?)
  (hos : w'.os = C.w.os) (ht : w'.tape = C.w.tape) (ho : w'.output = C.w.output) {cells rest : Array Value} {T : TypeId} {fz : Nat × Nat} (hb : w'.heap[C.w.heap.size]? = some (.cells (cells ++ rest) T fz))
  (hfz : fz.1 = fz.2 ∨ (cells ++ rest).size ≤ fz.1) (hr : ∀ (o : Nat) (x : Value), rest[o]? = some x → x.oneCell' = true)
  {k : RK} {sh : Sh} {es : List AV} (hl : Lay C.w C.G sh cells es) (hp : 0 < sh.size) {cap : Nat} (hcap : cap * sh.size ≤ (cells ++ rest).size) (hlc : es.length ≤ cap) (hv0 : k = .vrow → es = [] → cap = 0) :
  ∃ C' : Ctx, C'.w = w' ∧ C'.H = C.H ++ [.row k sh es] ∧ Ext C C' ∧ HRep C' ∧ RT C' (.slice (some ⟨C.w.heap.size, 0, none⟩) es.length cap) (.own C.H.length 0 es.length) := by
 have hlt := (Array.getElem?_eq_some_iff.1 hb).1
 have hE := add_ext hC w' hpre (by omega) hos ht ho C.w.heap.size (Nat.le_refl _) (.row k sh es)
 refine ⟨_, rfl, rfl, hE, add_hrep hC hpre (by omega) hos ht ho (Nat.le_refl _) ?_ ?_ ?_, rfl, by simp, ?_, fun kk s es' h => by simp at h; obtain ⟨rfl, rfl, rfl⟩ := h; simp, fun s es' h => by simp at h⟩
 ·intro kk s es h; cases h; exact hp
 ·intro kk s es h _
  cases h
  exact (hl.mono fun b hb => hE.G hb).row hp hb hfz hr
 ·intro es h; cases h
 ·intro kk s es' h
  simp at h
  obtain ⟨rfl, rfl, rfl⟩ := h
  refine ⟨fun hn => ?_, fun _ => ⟨cap, by simp, hlc, by omega, cells ++ rest, T, fz, by simp [hb], by simpa using hcap⟩⟩
  obtain ⟨rfl, rfl⟩ := Blk.not_live_row hn
  exact ⟨some ⟨C.w.heap.size, 0, none⟩, by simp [hv0 rfl rfl]⟩
/-- A row without memory. -/
theorem new_none {C : Ctx} (hC : HRep C) {w' : World} (hpre : ∀ b, b < C.w.heap.size → w'.heap[b]? = C.w.heap[b]?) (hsz : C.w.heap.size ≤ w'.heap.size)
  (hos : w'.os = C.w.os) (ht : w'.tape = C.w.tape) (ho : w'.output = C.w.output) {sh : Sh} (hp : 0 < sh.size) (ad : Option Addr) :
  ∃ C' : Ctx, C'.w = w' ∧ C'.H = C.H ++ [.row .vrow sh []] ∧ Ext C C' ∧ HRep C' ∧ RT C' (.slice ad 0 0) (.own C.H.length 0 0) := by
 have hE := add_ext hC w' hpre hsz hos ht ho C.w.heap.size (Nat.le_refl _) (.row .vrow sh [])
 refine ⟨_, rfl, rfl, hE, add_hrep hC hpre hsz hos ht ho (Nat.le_refl _) ?_ ?_ ?_, rfl, by simp, ?_, fun kk s es' h => by simp at h; obtain ⟨rfl, rfl, rfl⟩ := h; simp, fun s es' h => by simp at h⟩
 ·intro kk s es h; cases h; exact hp
 ·intro kk s es h hl
  cases h
  exact absurd rfl hl
 ·intro es h; cases h
 ·intro kk s es' h
  simp at h
  obtain ⟨rfl, rfl, rfl⟩ := h
  exact ⟨fun _ => ⟨_, rfl, rfl⟩, fun hl => absurd rfl hl⟩
section
variable {P : Program} (Γ : Tab P) {C : Ctx} (hC : HRep C) {a : Act} {fr : Fr} (hf : FrOk C a fr) {o : Oper} {next : AV → List Blk → Prop}
include hC hf
omit hC hf in
theorem Snd.mk {v : Value} {r : AV} {H' : List Blk} {w' : World} (hn : next r H') (hx : ∃ C' : Ctx, C'.w = w' ∧ C'.H = H' ∧ Ext C C' ∧ HRep C' ∧ RT C' v r) (hrun : (execOp a.eval o).run P C.w = .ok (.value v) w') : Snd P o a C next := by
 obtain ⟨C', rfl, rfl, hE, hC', hr⟩ := hx
 exact ⟨r, _, hn, Yield.of hrun hE hC' hr⟩
theorem snd_alloc {t : TypeId} (ho : o.op = .alloc t) (h : aop Γ fr (.alloc t) C.H next) : Snd P o a C next := by
 have _ := hf
 simp only [aop] at h
 split at h
 ·rename_i sh by' kd z hti
  obtain ⟨i, d, hi⟩ := Γ.info hti
  split at h
  ·rename_i hs
   simp only [Bool.and_eq_true] at hs
   have hp := Nat.le_of_ble_eq_true hs.2
   obtain ⟨zv, hz, hze⟩ := hi.zeroOk (sh := sh) hs.1
   have hze : avOfA zv = z := hze
   have hra : RA C zv z := hze ▸ RA_avOfA zv
   refine Snd.mk h (new_box hC hra (hra.shOk hs.1) hp t) ?_
   simp only [execOp, ho, Instr.alloc, Sem.run_bind, run_zero C.w hi.info hz, Result.andThen_ok, newVar, newRow, Sem.run_pure, run_newObj, World.alloc_eq]
  ·split at h
   ·split at h
    ·split at h
     ·have hz := hi.zeroMap rfl
      refine Snd.mk h (new_box hC (v := .map none) (x := .undef) (sh := .leaf) trivial rfl (Nat.le_refl _) t) ?_
      simp only [execOp, ho, Instr.alloc, Sem.run_bind, run_zero C.w hi.info hz, Result.andThen_ok, newVar, newRow, Sem.run_pure, run_newObj, World.alloc_eq]
     ·exact h.elim
    ·exact h.elim
   ·exact h.elim
 ·exact h.elim
theorem snd_box {t : TypeId} {x : Operand} (ho : o.op = .box t x) (h : aop Γ fr (.box t x) C.H next) : Snd P o a C next := by
 simp only [aop] at h
 have hx := hf.ev x
 split at h
 ·rename_i sh by' kd z hti
  obtain ⟨i, d, hi⟩ := Γ.info hti
  split at h
  ·rename_i hs
   rw [force_eq] at h
   simp only [Bool.and_eq_true] at hs
   have hp := Nat.le_of_ble_eq_true hs.2
   have hra := hx.RA (isSh.notTup hs.1)
   refine Snd.mk h (new_box hC hra (hra.shOk hs.1) hp t) ?_
   simp only [execOp, ho, Instr.box, Sem.run_bind, Result.andThen_ok, newVar, newRow, Sem.run_pure, run_newObj, World.alloc_eq]
  ·exact h.elim
 ·exact h.elim
theorem snd_makeMap {t : TypeId} (ho : o.op = .makeMap t none) (h : aop Γ fr (.makeMap t none) C.H next) : Snd P o a C next := by
 have _ := hf
 simp only [aop] at h
 have hE := add_ext hC (C.w.alloc (.map #[] 0)) (push_pre _ _) (by simp) rfl rfl rfl C.w.heap.size (Nat.le_refl _) (.map [])
 refine Snd.mk h (v := .map (some C.w.heap.size)) (w' := C.w.alloc (.map #[] 0)) ⟨_, rfl, rfl, hE, add_hrep hC (push_pre _ _) (by simp) rfl rfl rfl (Nat.le_refl _) ?_ ?_ ?_, rfl, by simp, ?_⟩ ?_
 ·intro kk s es h; cases h
 ·intro kk s es h; cases h
 ·intro es h
  cases h
  exact ⟨#[], 0, alloc_last _ _, rfl, fun i hi => by simp at hi⟩
 ·intro es _; simp
 ·simp [execOp, ho, Instr.makeMap]
omit hC hf in
theorem setCells_len : ∀ (xs cs : List AV) (off : Nat), (setCells cs off xs).length = cs.length
 | [], _, _ => rfl
 | x :: r, cs, off => by simp [setCells, setCells_len r]
omit hC hf in
theorem setCells_get : ∀ (xs cs : List AV) (off i : Nat), off + xs.length ≤ cs.length →
  (setCells cs off xs)[i]? = if off ≤ i ∧ i < off + xs.length then xs[i - off]? else cs[i]?
 | [], cs, off, i, _ => by simp [setCells]; intro h1 h2; omega
 | x :: r, cs, off, i, h => by
  simp only [List.length_cons] at h
  rw [setCells, setCells_get r _ _ _ (by simp; omega)]
  simp only [List.length_cons]
  by_cases h1 : off + 1 ≤ i ∧ i < off + 1 + r.length
  ·rw [if_pos h1, if_pos (by omega)]
   obtain ⟨k, rfl⟩ : ∃ k, i = off + 1 + k := ⟨i - (off + 1), by omega⟩
   rw [show off + 1 + k - (off + 1) = k by omega, show off + 1 + k - off = k + 1 by omega]
   simp
  ·rw [if_neg h1]
   by_cases h2 : i = off
   ·subst h2
    rw [if_pos (by omega)]
    simp only [Nat.sub_self, List.getElem?_cons_zero]
    rw [List.getElem?_set_self (by omega)]
   ·rw [if_neg (by omega), List.getElem?_set_ne (by omega)]
omit hC hf in
theorem fold_writeAt (off : Nat) (xs : Array Value) (cs : Array Value) : (xs.zipIdx.foldl (fun cs (c, j) => cs.setIfInBounds (off + j) c) cs) = writeAt cs off xs.toList := by
 have key : ∀ (l : List Value) (n : Nat) (cs : Array Value), (l.zipIdx n).foldl (fun cs (c, j) => cs.setIfInBounds (off + j) c) cs = writeAt cs (off + n) l := by
  intro l
  induction l with
  | nil => intro n cs; rfl
  | cons v r ih => intro n cs; simp only [List.zipIdx_cons, List.foldl_cons, writeAt]; rw [ih]; rfl
 rw [← Array.foldl_toList, Array.toList_zipIdx]
 exact key xs.toList 0 cs
omit hC hf in
/-- The cells of an element of shape sh, held by R1. -/
theorem RA.cellsOk {C : Ctx} {v : Value} {x : AV} {sh : Sh} (hv : RA C v x) (hs : isSh x sh = true) : v.cells.size = x.cells.length ∧ x.cells.length = sh.size ∧
  ∀ (i : Nat) (h : i < x.cells.length), R1 C (v.cells.getD i undef) x.cells[i] := by
 have hk := hv.shOk hs
 have hsz := hk.size
 cases x with
 | agg cs =>
  obtain ⟨vs, rfl, h1, h2, h3⟩ := hv
  simp only [Value.cells] at hsz ⊢
  exact ⟨h1, by simp only [AV.cells]; omega, h2⟩
 | tup vs => simp [isSh, AV.sh] at hs
 | undef => simp [isSh, AV.sh] at hs
 | _ =>
  have hl : sh = .leaf := by
   cases sh with
   | leaf => rfl
   | agg n => simp [isSh, AV.sh, Sh.beq] at hs
  subst hl
  have h1 : v.cells = #[v] := cells_one hk
  rw [h1]
  refine ⟨rfl, rfl, fun i hi => ?_⟩
  simp [AV.cells] at hi; subst hi
  exact hv
omit hC in
theorem fillA_snd {pl : Nat → Option (Nat × Nat)} {fs : List (Nat × Sh)} (hpl : ∀ (i off : Nat) (sh : Sh), fs[i]? = some (off, sh) → pl i = some (off, sh.size)) :
  ∀ (parts : List (Nat × Operand)) (cs : List AV) (cells : Array Value) (k : List AV → Prop), fillA fr fs cs parts k → RA C (.agg cells) (.agg cs) →
   ∃ cs' cells', k cs' ∧ RA C (.agg cells') (.agg cs') ∧ Instr.fill pl cells (parts.map fun (i, x) => (i, a.eval x)) = some cells'
 | [], cs, cells, k, h, hr => ⟨cs, cells, h, hr, rfl⟩
 | (i, x) :: rest, cs, cells, k, h, hr => by
  simp only [fillA_cons] at h
  split at h
  ·rename_i off sh hi
   split at h
   ·rename_i hs
    rw [force_eq] at h
    simp only [Bool.and_eq_true] at hs
    have hle := Nat.le_of_ble_eq_true hs.2
    have hra := (hf.ev x).RA (isSh.notTup hs.1)
    obtain ⟨h1, h2, h3⟩ := hra.cellsOk hs.1
    obtain ⟨us, he, husz, huc, hone⟩ := hr
    cases he
    have hra' : RA C (.agg (writeAt cells off (a.eval x).cells.toList)) (.agg (setCells cs off (ev fr x).cells)) := by
     refine ⟨_, rfl, by rw [writeAt_size, setCells_len]; exact husz, fun q hq => ?_, fun q y hy => ?_⟩
     ·rw [setCells_len] at hq
      have e1 := writeAt_get (a.eval x).cells.toList cells off q (by simp; omega)
      have e2 := setCells_get (ev fr x).cells cs off q (by omega)
      simp only [Array.length_toList] at e1
      have e3 : (setCells cs off (ev fr x).cells)[q]? = some ((setCells cs off (ev fr x).cells)[q]'(by rw [setCells_len]; exact hq)) := List.getElem?_eq_getElem _
      by_cases hin : off ≤ q ∧ q < off + (ev fr x).cells.length
      ·rw [if_pos hin] at e2
       rw [if_pos (by omega)] at e1
       rw [e3, List.getElem?_eq_getElem (show q - off < (ev fr x).cells.length by omega)] at e2
       have e2 := Option.some.inj e2
       rw [e2, Array.getD_eq_getD_getElem?, e1, Array.getElem?_toList, ← Array.getD_eq_getD_getElem?]
       exact h3 _ (by omega)
      ·rw [if_neg hin] at e2
       rw [if_neg (by omega)] at e1
       rw [e3, List.getElem?_eq_getElem hq] at e2
       have e2 := Option.some.inj e2
       rw [e2, Array.getD_eq_getD_getElem?, e1, ← Array.getD_eq_getD_getElem?]
       exact huc q hq
     ·have e1 := writeAt_get (a.eval x).cells.toList cells off q (by simp; omega)
      rw [hy] at e1
      split at e1
      ·rw [Array.getElem?_toList] at e1
       exact (hra.shOk hs.1).cell_one e1.symm
      ·exact hone q y e1.symm
    obtain ⟨cs', cells', hk, hr', hfill⟩ := fillA_snd hpl rest _ _ k h hra'
    refine ⟨cs', cells', hk, hr', ?_⟩
    simp only [List.map_cons, Instr.fill, hpl i off sh hi]
    rw [if_neg (by simp; omega), fold_writeAt]
    exact hfill
   ·exact h.elim
  ·exact h.elim
end
end Go.Bv
namespace Go.Bv
open Go
theorem run_mapM_list {α β : Type} {P : Program} {f : α → Sem β} {g : α → β} {w : World} : ∀ (l : List α), (∀ x ∈ l, (f x).run P w = .ok (g x) w) → (l.mapM f).run P w = .ok (l.map g) w
 | [], _ => by simp
 | x :: r, h => by
  simp only [List.mapM_cons, Sem.run_bind, h x (by simp), Result.andThen_ok, run_mapM_list r fun y hy => h y (by simp [hy]), Sem.run_pure, List.map_cons]
theorem run_mapM_array {α β : Type} {P : Program} {f : α → Sem β} {g : α → β} {w : World} (l : Array α) (h : ∀ x ∈ l.toList, (f x).run P w = .ok (g x) w) : (l.mapM f).run P w = .ok (l.map g) w := by
 rw [Array.mapM_eq_mapM_toList, Sem.run_map, run_mapM_list l.toList h]
 simp only [Result.andThen_ok]
 congr 1
 apply Array.ext'; simp
section
variable {P : Program} (Γ : Tab P) {C : Ctx} (hC : HRep C) {a : Act} {fr : Fr} (hf : FrOk C a fr) {o : Oper} {next : AV → List Blk → Prop}
include hC hf
theorem snd_build {t : TypeId} {parts : Array (Nat × Operand)} (ho : o.op = .build t parts) (h : aop Γ fr (.build t parts) C.H next) : Snd P o a C next := by
 simp only [aop] at h
 split at h
 ·rename_i n by' fs eqs z hti
  obtain ⟨i, d, hi⟩ := Γ.info hti
  obtain ⟨fields, rfl, hfs, _, hu⟩ := hi.struct rfl
  obtain ⟨zv, hz, hze⟩ := hi.zeroOk (sh := .agg z.length) (by simp [isSh, AV.sh, Sh.beq])
  have hze : avOfA zv = .agg z := hze
  have hra : RA C zv (.agg z) := hze ▸ RA_avOfA zv
  obtain ⟨zc, rfl, _⟩ := hra
  have hra : RA C (.agg zc) (.agg z) := hze ▸ RA_avOfA _
  have hpl : ∀ (i off : Nat) (sh : Sh), fs[i]? = some (off, sh) → (fields.map fun f => (f.offset, P.cellsOf f.type))[i]? = some (off, sh.size) := by
   intro i off sh h1
   have h1 : (fields.toList.map fun f => (f.offset, shOf P f.type))[i]? = some (off, sh) := by rw [← hfs]; exact h1
   rw [List.getElem?_map, Option.map_eq_some_iff] at h1
   obtain ⟨fl, hfl, he⟩ := h1
   obtain ⟨rfl, rfl⟩ := Prod.mk.inj he
   rw [Array.getElem?_toList] at hfl
   obtain ⟨d', hd', hd1⟩ := hu fl (by rw [Array.mem_toList_iff]; exact Array.mem_of_getElem? hfl)
   simp only [Array.getElem?_map, hfl, Option.map_some]
   congr 2
   rw [shOf_eq hd']
   cases hag : isAggD d' with
   | false => simp [Sh.size, hd1 hag]
   | true => simp [Sh.size]
  obtain ⟨cs', cells', hk, hr', hfill⟩ := fillA_snd hf (pl := fun i => (fields.map fun f => (f.offset, P.cellsOf f.type))[i]?) hpl parts.toList z zc _ h hra
  refine ⟨_, _, hk, Yield.same hC (v := .agg cells') ?_ hr'⟩
  have hm : (fields.mapM fun f => (do pure (f.offset, ← sizeOf f.type) : Sem (Nat × Nat))).run P C.w = .ok (fields.map fun f => (f.offset, P.cellsOf f.type)) C.w := by
   refine run_mapM_array fields fun f hfm => ?_
   obtain ⟨d', hd', _⟩ := hu f hfm
   obtain ⟨i', hi'⟩ := und_info hd'
   simp [run_sz C.w hi', cellsOf_eq hi']
  have hpt : (parts.map fun (i, x) => (i, a.eval x)).toList = parts.toList.map fun (i, x) => (i, a.eval x) := by simp
  simp only [execOp, ho]
  simp only [Instr.build, Sem.run_bind, run_zero C.w hi.info hz, Result.andThen_ok, run_und C.w hi.und, hm, Value.cells, hpt, hfill, Sem.run_pure]
 ·rename_i n by' m e z hti
  split at h
  ·rename_i sh by2 kd ze hte
   obtain ⟨i, d, hi⟩ := Γ.info hti
   obtain ⟨i', d', hi'⟩ := Γ.info hte
   have hd := hi.array rfl; subst hd
   obtain ⟨zv, hz, hze⟩ := hi.zeroOk (sh := .agg z.length) (by simp [isSh, AV.sh, Sh.beq])
   have hze : avOfA zv = .agg z := hze
   have hra : RA C zv (.agg z) := hze ▸ RA_avOfA zv
   obtain ⟨zc, rfl, _⟩ := hra
   have hra : RA C (.agg zc) (.agg z) := hze ▸ RA_avOfA _
   have hpl : ∀ (i off : Nat) (s : Sh), ((List.range m).map fun i => (i * sh.size, sh))[i]? = some (off, s) → (fun i => some (i * sh.size, sh.size)) i = some (off, s.size) := by
    intro i off s h1
    rw [List.getElem?_map, Option.map_eq_some_iff] at h1
    obtain ⟨j, hj, he⟩ := h1
    obtain ⟨rfl, rfl⟩ := Prod.mk.inj he
    obtain ⟨_, hj⟩ := List.getElem?_eq_some_iff.1 hj
    rw [List.getElem_range] at hj
    rw [hj]
   obtain ⟨cs', cells', hk, hr', hfill⟩ := fillA_snd hf hpl parts.toList z zc _ h hra
   refine ⟨_, _, hk, Yield.same hC (v := .agg cells') ?_ hr'⟩
   have hpt : (parts.map fun (i, x) => (i, a.eval x)).toList = parts.toList.map fun (i, x) => (i, a.eval x) := by simp
   simp only [execOp, ho]
   simp only [Instr.build, Sem.run_bind, run_zero C.w hi.info hz, Result.andThen_ok, run_und C.w hi.und, run_sz C.w hi'.info, hi'.sz, Value.cells, hpt, hfill, Sem.run_pure]
  ·exact h.elim
 ·exact h.elim
omit hC in
theorem fillS_snd {sh : Sh} (hp : 0 < sh.size) : ∀ (parts : List (Nat × Operand)) (es : List AV) (cells : Array Value) (k : List AV → Prop), fillS fr sh es parts k → Lay C.w C.G sh cells es →
   ∃ es' cells', k es' ∧ es'.length = es.length ∧ Lay C.w C.G sh cells' es' ∧ Instr.fill (fun i => some (i * sh.size, sh.size)) cells (parts.map fun (i, x) => (i, a.eval x)) = some cells'
 | [], es, cells, k, h, hl => ⟨es, cells, h, rfl, hl, rfl⟩
 | (i, x) :: rest, es, cells, k, h, hl => by
  simp only [fillS_cons] at h
  split at h
  ·rename_i hs
   rw [force_eq] at h
   simp only [Bool.and_eq_true] at hs
   obtain ⟨hs1, hs2, hs3⟩ := hs
   have hlt : i < es.length := Nat.le_of_ble_eq_true hs3
   have hra := (hf.ev x).RA (isSh.notTup hs1)
   have hsh := hra.shOk hs1
   have hrp := hra.pure hs2
   have hsz := hsh.size
   have hle : i * sh.size + sh.size ≤ es.length * sh.size := by
    have : (i + 1) * sh.size ≤ es.length * sh.size := Nat.mul_le_mul_right _ hlt
    rw [Nat.add_mul, Nat.one_mul] at this; exact this
   have hl' : Lay C.w C.G sh (writeAt cells (i * sh.size) (a.eval x).cells.toList) (es.set i (ev fr x)) := by
    refine ⟨by rw [writeAt_size, hl.1]; simp, fun q hq => ?_⟩
    simp only [List.length_set] at hq
    have hwr : ∀ j, j < sh.size → (writeAt cells (i * sh.size) (a.eval x).cells.toList)[q * sh.size + j]? = if q = i then (a.eval x).cells[j]? else cells[q * sh.size + j]? := by
     intro j hj
     rw [writeAt_get _ _ _ _ (by simp [hsz, hl.1]; exact hle)]
     simp only [Array.length_toList, hsz]
     by_cases hqi : q = i
     ·subst hqi
      rw [if_pos (by omega), if_pos rfl, Nat.add_sub_cancel_left, Array.getElem?_toList]
     ·rw [if_neg hqi, if_neg]
      intro hh
      rcases Nat.lt_or_gt_of_ne hqi with h1 | h1
      ·have := idx_lt h1 hj; omega
      ·have : (i + 1) * sh.size ≤ q * sh.size := Nat.mul_le_mul_right _ h1
       rw [Nat.add_mul, Nat.one_mul] at this; omega
    by_cases hqi : q = i
    ·subst hqi
     exact ⟨a.eval x, by simpa using hrp, hsh, fun j hj => by rw [hwr j hj, if_pos rfl]⟩
    ·obtain ⟨v, hv, hvs, hc⟩ := hl.2 q hq
     refine ⟨v, ?_, hvs, fun j hj => by rw [hwr j hj, if_neg hqi]; exact hc j hj⟩
     rw [List.getElem_set_ne (by omega)]; exact hv
   obtain ⟨es', cells', hk, hlen, hr', hfill⟩ := fillS_snd hp rest _ _ k h hl'
   refine ⟨es', cells', hk, by simpa using hlen, hr', ?_⟩
   simp only [List.map_cons, Instr.fill]
   rw [if_neg (by simp [hsz, hl.1]; exact hle), fold_writeAt]
   exact hfill
  ·exact h.elim
omit hC hf in
omit hC hf in
theorem new_list (hC : HRep C) {sh : Sh} {es : List AV} {cells : Array Value} {e : TypeId} (hl : Lay C.w C.G sh cells es) :
  RP (C.w.alloc (.cells cells e)) ({ C with w := C.w.alloc (.cells cells e) } : Ctx).G (.slice (some ⟨C.w.heap.size, 0, none⟩) es.length es.length) (.list sh es) := by
 have hE := grow_ext hC (C.w.alloc (.cells cells e)) (push_pre _ _) (by simp) rfl rfl rfl
 exact RP.list (w := C.w.alloc (.cells cells e)) (G := ({ C with w := C.w.alloc (.cells cells e) } : Ctx).G) sh C.w.heap.size 0 es.length es (fun i => if h : i < es.length then (hl.2 i h).choose else undef) (by omega)
  ⟨by simp, fun hF => by have := hC.Flt _ hF; omega, fun ho => by
   obtain ⟨id, k, hk, hlv, hb⟩ := ho
   have := hC.lt hk hlv
   dsimp only at hb; omega⟩
  (fun i hi => by rw [dif_pos hi]; exact hE.RP (hl.2 i hi).choose_spec.1)
  (fun i hi => by rw [dif_pos hi]; exact (hl.2 i hi).choose_spec.2.1)
  (fun i j hi hj => by
   rw [dif_pos hi, ← (hl.2 i hi).choose_spec.2.2 j hj]
   simp only [World.cell?, alloc_last, Option.isSome_none, Bool.false_eq_true, if_false, Nat.zero_add])
theorem snd_buildSlice {t : TypeId} {len : Nat} {parts : Array (Nat × Operand)} (ho : o.op = .buildSlice t len parts) (h : aop Γ fr (.buildSlice t len parts) C.H next) : Snd P o a C next := by
 simp only [aop] at h
 split at h
 ·rename_i sh0 by0 e z0 hti
  obtain ⟨i, d, hi⟩ := Γ.info hti
  have hd := hi.slice rfl; subst hd
  split at h
  ·rename_i sh by' kd z hte
   obtain ⟨i', d', hi'⟩ := Γ.info hte
   split at h
   ·rename_i hs
    simp only [Bool.and_eq_true] at hs
    obtain ⟨⟨hs1, hs2⟩, hs3, hs4⟩ := hs
    have hp : 0 < sh.size := Nat.le_of_ble_eq_true hs4
    have hb := Nat.le_of_ble_eq_true hs3
    have hsz : i'.size = sh.size := hi'.sz
    split at h
    ·split at h
     ·rename_i hpt
      have hpt : parts = #[] := by apply Array.ext'; simpa using hpt
      subst hpt
      refine Snd.mk h (new_none hC (push_pre C.w (.cells #[] e)) (by simp) rfl rfl rfl hp (some ⟨C.w.heap.size, 0, none⟩)) ?_
      simp only [execOp, ho]
      simp only [Instr.buildSlice, Sem.run_bind, run_und C.w hi.und, Result.andThen_ok, run_sz C.w hi'.info, Nat.zero_mul, Sem.run_ite, Sem.run_pure]
      rw [if_neg (by omega)]
      simp [newRow, Instr.fill, Array.range]
     ·exact h.elim
    ·rename_i n
     obtain ⟨zv, hz, hze⟩ := hi'.zeroOk (sh := sh) hs1
     have hze : avOfA zv = z := hze
     have hra : RA C zv z := hze ▸ RA_avOfA zv
     have hzs := hra.shOk hs1
     have hzp := hra.pure hs2
     have hzsz := hzs.size
     obtain ⟨es', cells', hk, hlen, hl, hfill⟩ := fillS_snd hf hp parts.toList _ _ _ h (Lay.zeros (w := C.w) (G := C.G) hzp hzs (n + 1))
     have hE := grow_ext hC (C.w.alloc (.cells cells' e)) (push_pre _ _) (by simp) rfl rfl rfl
     have hC' := grow_hrep hC (push_pre C.w (.cells cells' e)) (by simp) rfl rfl rfl
     have hlen : es'.length = n + 1 := by simpa using hlen
     have hcs : cells'.size = (n + 1) * sh.size := by rw [hl.1, hlen]
     have hexec : (execOp a.eval o).run P C.w = .ok (.value (.slice (some ⟨C.w.heap.size, 0, none⟩) (n + 1) (n + 1))) (C.w.alloc (.cells cells' e)) := by
      have hpt : (parts.map fun (i, x) => (i, a.eval x)).toList = parts.toList.map fun (i, x) => (i, a.eval x) := by simp
      simp only [execOp, ho]
      have hne : ¬ ((n + 1) * sh.size = 0) := by
       intro h0; rcases Nat.mul_eq_zero.1 h0 with h1 | h1 <;> omega
      have hz0 : (Array.range ((n + 1) * sh.size)).map (fun i => zv.cells[i % zv.cells.size]!) = Builtin.zeroCells zv.cells (n + 1) := by rw [← hzsz]; rfl
      simp only [Instr.buildSlice, Sem.run_bind, run_und C.w hi.und, Result.andThen_ok, run_sz C.w hi'.info, hsz, Sem.run_ite, Sem.run_pure]
      rw [if_neg (by omega), if_neg hne]
      simp only [run_zero C.w hi'.info hz, Result.andThen_ok, Sem.run_bind, Sem.run_pure, hz0, hpt, hfill, newRow, run_newObj, World.alloc_eq]
     have hlist : next (.list sh es') C.H → Snd P o a C next := fun hk => by
      refine ⟨_, _, hk, Yield.of (C' := { C with w := C.w.alloc (.cells cells' e) }) (v := .slice (some ⟨C.w.heap.size, 0, none⟩) (n + 1) (n + 1)) hexec hE hC' ?_⟩
      have := new_list hC (e := e) hl
      rw [hlen] at this
      exact this
     split at hk
     ·rcases hk with hk | hk
      ·have hrow := new_row hC (k := .row) (push_pre C.w (.cells (cells' ++ #[]) e)) rfl rfl rfl (alloc_last _ _) (.inl rfl) (fun o x hx => by simp at hx) hl hp (cap := n + 1) (by simp [hcs]) (by omega) (fun hh => by cases hh)
       rw [hlen] at hrow
       refine Snd.mk hk hrow ?_
       rw [hexec, Array.append_empty]
      ·exact hlist hk
     ·exact hlist hk
   ·exact h.elim
  ·exact h.elim
 ·exact h.elim
theorem snd_makeSlice {t : TypeId} {l c : Operand} (ho : o.op = .makeSlice t l c) (h : aop Γ fr (.makeSlice t l c) C.H next) : Snd P o a C next := by
 simp only [aop] at h
 have hl := hf.ev l
 have hc := hf.ev c
 split at h
 ·rename_i sh0 by0 e z0 hti
  obtain ⟨i, d, hi⟩ := Γ.info hti
  have hd := hi.slice rfl; subst hd
  split at h
  ·rename_i sh by' kd z hte
   obtain ⟨i', d', hi'⟩ := Γ.info hte
   split at h
   ·rename_i hs
    simp only [Bool.and_eq_true] at hs
    obtain ⟨⟨hs1, hs2⟩, hs4⟩ := hs
    have hp : 0 < sh.size := Nat.le_of_ble_eq_true hs4
    unfold intA at h
    split at h
    ·rename_i k n hle
     rw [hle] at hl
     have hl := hl.int
     split at h
     ·rename_i k' m hce
      rw [hce] at hc
      have hc := hc.int
      obtain ⟨⟨hmn, h0, h1, h2⟩, h⟩ := h
      have hmn : n = m := hmn.symm
      subst hmn
      obtain ⟨zv, hz, hze⟩ := hi'.zeroOk (sh := sh) hs1
      have hze : avOfA zv = z := hze
      have hra : RA C zv z := hze ▸ RA_avOfA zv
      have hzs := hra.shOk hs1
      have hzsz := hzs.size
      have hsz : i'.size = sh.size := hi'.sz
      have hby : i'.bytes = by' := hi'.bytes
      have hw : IntKind.i64.wrap n = n := by unfold IntKind.wrap; simp [IntKind.bits, IntKind.signed]; omega
      have hlay := Lay.zeros (w := C.w) (G := C.G) (hra.pure hs2) hzs n.toNat
      have hexec : (execOp a.eval o).run P C.w = .ok (.value (.slice (some ⟨C.w.heap.size, 0, none⟩) n.toNat n.toNat)) (C.w.alloc (.cells (Builtin.zeroCells zv.cells n.toNat) e)) := by
       simp only [execOp, ho, hl, hc]
       have hrg : (Array.range (n.toNat * sh.size)).map (fun i => (if n.toNat * sh.size = 0 then #[] else zv.cells)[i % (if n.toNat * sh.size = 0 then #[] else zv.cells).size]!) = Builtin.zeroCells zv.cells n.toNat := by
        by_cases hh : n.toNat * sh.size = 0
        ·have : Builtin.zeroCells zv.cells n.toNat = #[] := by apply Array.eq_empty_of_size_eq_zero; rw [zeroCells_size, hzsz]; exact hh
         rw [this, hh]; simp [Array.range]
        ·simp only [hh, if_false]; rw [← hzsz]; rfl
       simp only [Instr.makeSlice, Sem.run_bind, run_und C.w hi.und, Result.andThen_ok, asInt, asIntOf, Sem.run_pure, run_ti C.w hi'.info, hby, hw, Sem.run_ite]
       rw [if_neg (by
        have e1 : ¬ (n < 0) := by omega
        have e2 : (by' : Int) * n ≤ 281474976710656 := by rw [Int.mul_comm]; exact h1
        simp [e1]; omega)]
       simp only [run_askRoom, Result.andThen_ok, run_sz C.w hi'.info, hsz, Sem.run_bind, newRow, run_newObj, Sem.run_pure, World.alloc_eq]
       by_cases hh : n.toNat * sh.size = 0
       ·simp only [hh, if_true] at hrg ⊢
        rw [← hrg]; rfl
       ·simp only [hh, if_false] at hrg ⊢
        simp only [Sem.run_bind, run_zero C.w hi'.info hz, Result.andThen_ok, Sem.run_pure, run_newObj, World.alloc_eq, hrg]
      rcases h with h | h
      ·have hrow := new_row hC (k := .row) (push_pre C.w (.cells (Builtin.zeroCells zv.cells n.toNat ++ #[]) e)) rfl rfl rfl (alloc_last _ _) (.inl rfl) (fun o x hx => by simp at hx) hlay hp
        (cap := n.toNat) (by simp [zeroCells_size, hzsz]) (by simp) (fun hh => by cases hh)
       simp only [List.length_replicate] at hrow
       refine Snd.mk h hrow ?_
       rw [hexec, Array.append_empty]
      ·refine ⟨_, _, h, Yield.of (C' := { C with w := C.w.alloc (.cells (Builtin.zeroCells zv.cells n.toNat) e) }) (v := .slice (some ⟨C.w.heap.size, 0, none⟩) n.toNat n.toNat) hexec
        (grow_ext hC (C.w.alloc (.cells (Builtin.zeroCells zv.cells n.toNat) e)) (push_pre _ _) (by simp) rfl rfl rfl)
        (grow_hrep hC (push_pre C.w (.cells (Builtin.zeroCells zv.cells n.toNat) e)) (by simp) rfl rfl rfl) ?_⟩
       have := new_list hC (e := e) hlay
       simp only [List.length_replicate] at this
       exact this
     ·exact h.elim
    ·exact h.elim
   ·exact h.elim
  ·exact h.elim
 ·exact h.elim
end
end Go.Bv
namespace Go.Bv
open Go
/-- Writing into one element of a row. -/
theorem put_row {P : Program} {C : Ctx} (hC : HRep C) {id : Nat} {kk : RK} {sh : Sh} {es : List AV} (hid : C.H[id]? = some (.row kk sh es)) {j : Nat} (hj : j < es.length) {k : Nat} {xs : Array Value}
  (hle : k + xs.size ≤ sh.size) (hxs : ∀ (i : Nat) (x : Value), xs[i]? = some x → x.oneCell' = true) {e' : AV} {u' : Value} (hu : RA C u' e') (hup : kk ≠ .box → RP C.w C.G u' e') (hus : okSh u' sh)
  (hcell : ∀ (c : Array Value) (T : TypeId) (fz : Nat × Nat), C.w.heap[C.β id]? = some (.cells c T fz) → ∀ q, q < sh.size → (if k ≤ q ∧ q < k + xs.size then xs[q - k]? else c[j * sh.size + q]?) = u'.cells[q]?) :
  ∃ C' : Ctx, C'.H = C.H.set id (.row kk sh (es.set j e')) ∧ Ext C C' ∧ HRep C' ∧ (storeCells ⟨C.β id, j * sh.size + k, none⟩ xs.toList).run P C.w = .ok () C'.w := by
 have hlive : (Blk.row kk sh es).live := by cases kk <;> simp [Blk.live]; intro h0; subst h0; simp at hj
 obtain ⟨c, T, fz, hc, hfz, hsz, hone, hel⟩ := hC.row id kk sh es hid hlive
 have hrow : (j + 1) * sh.size ≤ es.length * sh.size := Nat.mul_le_mul_right _ hj
 rw [Nat.add_mul, Nat.one_mul] at hrow
 have hrun := run_storeCells_rep (P := P) (b := C.β id) (o := j * sh.size + k) (T := T) (fr := fz) xs.toList 0 c C.w hc (by simp; omega) (fzNot hfz) (fun v hv => by
  rw [Array.mem_toList_iff] at hv
  obtain ⟨i, hi, rfl⟩ := Array.mem_iff_getElem.1 hv
  exact hxs i _ (Array.getElem?_eq_getElem hi))
 rw [Nat.add_zero] at hrun
 have hget : ∀ q, (writeAt c (j * sh.size + k) xs.toList)[q]? = if j * sh.size + k ≤ q ∧ q < j * sh.size + k + xs.size then xs[q - (j * sh.size + k)]? else c[q]? := by
  intro q
  have := writeAt_get xs.toList c (j * sh.size + k) q (by simp; omega)
  rw [Array.length_toList, Array.getElem?_toList] at this
  exact this
 have hsz' : (writeAt c (j * sh.size + k) xs.toList).size = c.size := writeAt_size _ _ _
 have hlen : (es.set j e').length = es.length := by simp
 have hE := set_ext hC hid hlive hlen hc hsz'
 refine ⟨_, rfl, hE, set_hrep hC hid hlive hlen hc hsz' ?_, hrun⟩
 have hlt := (Array.getElem?_eq_some_iff.1 hc).1
 refine ⟨writeAt c (j * sh.size + k) xs.toList, T, fz, by simp [World.write, hlt], by rw [hsz']; exact hfz, by rw [hsz', hlen]; exact hsz, fun q x hx => ?_, fun i hi => ?_⟩
 ·rw [hget] at hx
  split at hx
  ·exact hxs _ x hx
  ·exact hone q x hx
 ·rw [hlen] at hi
  obtain ⟨v, hv, hvp, hvs, hvc⟩ := hel i hi
  by_cases hij : i = j
  ·subst hij
   refine ⟨u', by simpa using hE.RA hu, fun hk => by simpa using hE.RP (hup hk), hus, fun q hq => ?_⟩
   rw [← hcell c T fz hc q hq, hget]
   by_cases hh : k ≤ q ∧ q < k + xs.size
   ·rw [if_pos hh, if_pos (by omega)]
    congr 1; omega
   ·rw [if_neg hh, if_neg (by omega)]
  ·refine ⟨v, by rw [List.getElem_set_ne (by omega)]; exact hE.RA hv, fun hk => by rw [List.getElem_set_ne (by omega)]; exact hE.RP (hvp hk), hvs, fun q hq => ?_⟩
   rw [hget, if_neg, hvc q hq]
   intro hh
   rcases Nat.lt_or_gt_of_ne hij with h1 | h1
   ·have := idx_lt h1 hq; omega
   ·have : (j + 1) * sh.size ≤ i * sh.size := Nat.mul_le_mul_right _ h1
    rw [Nat.add_mul, Nat.one_mul] at this; omega
section
variable {P : Program} (Γ : Tab P) {C : Ctx} (hC : HRep C) {a : Act} {fr : Fr} (hf : FrOk C a fr) {o : Oper} {next : AV → List Blk → Prop}
include hC
theorem store_snd {id : Nat} {kk : RK} {sh : Sh} {es : List AV} (hid : C.H[id]? = some (.row kk sh es)) {j k : Nat} (hj : j < es.length) {t : TypeId} {ti : TI} {i : TypeInfo} {d : TypeDesc} (hi : TInfo P t ti i d)
  {v : Value} {y : AV} (hv : RA C v y) (hs : isSh y ti.sh = true) (hp : kk ≠ .box → y.pure = true) {nx : AV → Prop} (h : storePart sh ti.sh es[j] k y nx) :
  ∃ e' C', nx e' ∧ C'.H = C.H.set id (.row kk sh (es.set j e')) ∧ Ext C C' ∧ HRep C' ∧ (storeVar t ⟨C.β id, j * sh.size + k, none⟩ v).run P C.w = .ok () C'.w := by
 have hvs := hv.shOk hs
 have hsz := hvs.size
 have fin : ∀ {e' : AV} {C' : Ctx}, nx e' → C'.H = C.H.set id (.row kk sh (es.set j e')) → Ext C C' → HRep C' → (storeCells ⟨C.β id, j * sh.size + k, none⟩ v.cells.toList).run P C.w = .ok () C'.w →
   ∃ e' C', nx e' ∧ C'.H = C.H.set id (.row kk sh (es.set j e')) ∧ Ext C C' ∧ HRep C' ∧ (storeVar t ⟨C.β id, j * sh.size + k, none⟩ v).run P C.w = .ok () C'.w := by
  intro e' C' h1 h2 h3 h4 h5
  refine ⟨e', C', h1, h2, h3, h4, ?_⟩
  simp only [storeVar, Sem.run_bind, run_sz C.w hi.info, Result.andThen_ok, Sem.run_ite, hi.sz]
  rw [if_neg (by simp [hsz])]
  exact h5
 unfold storePart at h
 split at h
 ·rename_i hb
  simp only [Bool.and_eq_true] at hb
  have hk := Nat.eq_of_beq_eq_true hb.1
  have hsh := Sh.beq_eq hb.2
  subst hk
  rw [hsh] at hvs hsz
  obtain ⟨C', h2, h3, h4, h5⟩ := put_row (P := P) hC hid hj (k := 0) (xs := v.cells) (by omega) (fun i x hx => hvs.cell_one hx) hv (fun hk => hv.pure (hp hk)) hvs (fun c _ _ _ q hq => by rw [if_pos (by omega), Nat.sub_zero])
  exact fin h h2 h3 h4 h5
 ·split at h
  ·rename_i cs hcs
   have hlive : (Blk.row kk sh es).live := by cases kk <;> simp [Blk.live]; intro h0; subst h0; simp at hj
   obtain ⟨c, T, fz, hc, _, _, _, hel⟩ := hC.row id kk sh es hid hlive
   obtain ⟨u, hu, hup, hus, hucell⟩ := hel j hj
   rw [hcs] at hu hup
   obtain ⟨us, rfl, husz, huc, huone⟩ := hu
   have hussz : us.size = sh.size := by simpa [Value.cells] using hus.size
   obtain ⟨h1, h2, h3⟩ := hv.cellsOk hs
   have part : ∀ {cs' : List AV}, k + v.cells.size ≤ us.size → cs'.length = cs.length → (∀ q (hq : q < cs'.length) (hq' : q < cs.length), ¬ (k ≤ q ∧ q < k + y.cells.length) → cs'[q] = cs[q]) → (∀ q (hq : q < y.cells.length) (hq' : k + q < cs'.length), cs'[k + q] = y.cells[q]) → nx (.agg cs') →
     ∃ e' C', nx e' ∧ C'.H = C.H.set id (.row kk sh (es.set j e')) ∧ Ext C C' ∧ HRep C' ∧ (storeVar t ⟨C.β id, j * sh.size + k, none⟩ v).run P C.w = .ok () C'.w := by
    intro cs' hle hlen hold hnew hn
    have hwr : ∀ q, (writeAt us k v.cells.toList)[q]? = if k ≤ q ∧ q < k + v.cells.size then v.cells[q - k]? else us[q]? := by
     intro q
     have := writeAt_get v.cells.toList us k q (by simp; omega)
     rw [Array.length_toList, Array.getElem?_toList] at this
     exact this
    have hgd : ∀ q, q < us.size → (writeAt us k v.cells.toList).getD q undef = if k ≤ q ∧ q < k + v.cells.size then v.cells.getD (q - k) undef else us.getD q undef := by
     intro q _
     simp only [Array.getD_eq_getD_getElem?, hwr]
     split <;> rfl
    have hr : ∀ (q : Nat) (hq : q < cs'.length), R1 C ((writeAt us k v.cells.toList).getD q undef) cs'[q] := by
     intro q hq
     rw [hgd q (by omega)]
     by_cases hh : k ≤ q ∧ q < k + v.cells.size
     ·rw [if_pos hh]
      have := hnew (q - k) (by omega) (by omega)
      have e : k + (q - k) = q := by omega
      simp only [e] at this
      rw [this]
      exact h3 (q - k) (by omega)
     ·rw [if_neg hh, hold q hq (by omega) (by omega)]
      exact huc q (by omega)
    have hone : ∀ (q : Nat) (x : Value), (writeAt us k v.cells.toList)[q]? = some x → x.oneCell' = true := by
     intro q x hx
     rw [hwr] at hx
     split at hx
     ·exact hvs.cell_one hx
     ·exact huone q x hx
    have hra : RA C (.agg (writeAt us k v.cells.toList)) (.agg cs') := ⟨_, rfl, by rw [writeAt_size]; omega, hr, hone⟩
    have hsh' : okSh (.agg (writeAt us k v.cells.toList)) sh := by
     cases sh with
     | leaf => simp [okSh, Value.oneCell'] at hus
     | agg n => exact ⟨_, rfl, by rw [writeAt_size]; simpa [Sh.size] using hussz, hone⟩
    have hrp : kk ≠ .box → RP C.w C.G (.agg (writeAt us k v.cells.toList)) (.agg cs') := by
     intro hk
     have hyp := hv.pure (hp hk)
     have hup := hup hk
     cases hup with
     | agg _ _ _ hcr _ =>
     refine .agg _ _ (by rw [writeAt_size]; omega) (fun q hq => ?_) hone
     rw [hgd q (by omega)]
     by_cases hh : k ≤ q ∧ q < k + v.cells.size
     ·rw [if_pos hh]
      have := hnew (q - k) (by omega) (by omega)
      have e : k + (q - k) = q := by omega
      simp only [e] at this
      rw [this]
      have hp1 : (y.cells[q - k]'(by omega)).pure1 = true := by
       have := hp hk
       cases y with
       | agg ys => simp only [AV.pure, List.all_eq_true] at this; exact this _ (List.getElem_mem _)
       | _ => simp only [AV.cells, List.length_singleton] at h2 ⊢; simp only [AV.pure] at this; simpa [AV.cells] using this
      exact RL.pure (h3 (q - k) (by omega)) hp1
     ·rw [if_neg hh, hold q hq (by omega) (by omega)]
      exact hcr q (by omega)
    obtain ⟨C', h5, h6, h7, h8⟩ := put_row (P := P) hC hid hj (k := k) (xs := v.cells) (by omega) (fun i x hx => hvs.cell_one hx) hra hrp hsh' (fun c' T' fz' hc' q hq => by
     rw [hc] at hc'; cases hc'
     rw [hucell q hq]
     exact (hwr q).symm)
    exact fin hn h5 h6 h7 h8
   split at h
   ·rename_i ht
    rw [ht] at h2 hsz
    simp only [Sh.size] at h2 hsz
    split at h
    ·rename_i hle
     have hle := Nat.le_of_ble_eq_true hle
     have hyc : y.cells = [y] := by
      cases y with
      | agg ys => rw [ht] at hs; simp [isSh, AV.sh, Sh.beq] at hs
      | _ => rfl
     refine part (cs' := cs.set k y) (by omega) (by simp) (fun q hq hq' hh => ?_) (fun q hq hq' => ?_) h
     ·rw [h2] at hh
      rw [List.getElem_set_ne (by omega)]
     ·have : q = 0 := by omega
      subst this
      simp [hyc]
    ·exact h.elim
   ·rename_i n ht
    rw [ht] at h2 hsz
    simp only [Sh.size] at h2 hsz
    split at h
    ·rename_i hle
     have hle := Nat.le_of_ble_eq_true hle
     have hlen : (cs.take k ++ (y.cells ++ cs.drop (k + n))).length = cs.length := by simp; omega
     refine part (by omega) hlen (fun q hq hq' hh => ?_) (fun q hq hq' => ?_) h
     ·rw [h2] at hh
      rcases Nat.lt_or_ge q k with h4 | h4
      ·rw [List.getElem_append_left (by simp; omega)]
       simp
      ·rw [List.getElem_append_right (by simp; omega), List.getElem_append_right (by simp; omega)]
       simp only [List.getElem_drop, List.length_take]
       congr 1; omega
     ·rw [List.getElem_append_right (by simp; omega), List.getElem_append_left (by simp; omega)]
      congr 1; simp; omega
    ·exact h.elim
  ·exact h.elim
include hf
theorem snd_store {t : TypeId} {x y : Operand} (ho : o.op = .store t x y) (h : aop Γ fr (.store t x y) C.H next) : Snd P o a C next := by
 simp only [aop] at h
 have hx := hf.ev x
 have hy := hf.ev y
 split at h
 ·rename_i tsh by' kd ze hti
  obtain ⟨i, d, hi⟩ := Γ.info hti
  have fin : ∀ {id j k : Nat} {kk : RK} {sh : Sh} {es : List AV} {nx : AV → Prop}, ev fr x = .ptr id j k → C.H[id]? = some (.row kk sh es) → (hj : j < es.length) → isSh (ev fr y) tsh = true → (kk ≠ .box → (ev fr y).pure = true) →
    storePart sh tsh es[j] k (ev fr y) nx → (∀ e', nx e' → next .undef (C.H.set id (.row kk sh (es.set j e')))) → Snd P o a C next := by
   intro id j k kk sh es nx hxe hid hj hs hp hst hn
   rw [hxe] at hx
   have hpv := hx.ptr hid
   obtain ⟨e', C', hne, hH, hE, hC', hrun⟩ := store_snd hC hid hj hi (hy.RA (isSh.notTup hs)) hs hp hst
   refine ⟨.undef, _, hn e' hne, ?_⟩
   rw [← hH]
   refine Yield.skip ?_ hE hC'
   simp only [execOp, ho, hpv, Instr.storeAt, Instr.sureAddr, Sem.run_bind, Sem.run_pure, Result.andThen_ok, hrun]
  split at h
  ·rename_i id j k hxe
   split at h
   ·rename_i hs
    split at h
    ·rename_i sh e hid
     split at h
     ·rw [force_eq] at h
      exact fin hxe hid (by simp) hs (fun hk => absurd rfl hk) h (fun e' hn => hn)
     ·exact h.elim
    ·rename_i sh es hid
     split at h
     ·rename_i hp
      obtain ⟨e, he, h⟩ := h
      rw [force_eq] at h
      obtain ⟨hlt, rfl⟩ := List.getElem?_eq_some_iff.1 he
      exact fin hxe hid hlt hs (fun _ => hp) h (fun e' hn => hn)
     ·exact h.elim
    ·rename_i sh es hid
     split at h
     ·rename_i hp
      obtain ⟨e, he, h⟩ := h
      rw [force_eq] at h
      obtain ⟨hlt, rfl⟩ := List.getElem?_eq_some_iff.1 he
      exact fin hxe hid hlt hs (fun _ => hp) h (fun e' hn => hn)
     ·exact h.elim
    ·exact h.elim
   ·exact h.elim
  ·exact h.elim
 ·exact h.elim
end
end Go.Bv
namespace Go.Bv
open Go
theorem growBy_le (newLen : Nat) : ∀ (rounds c : Nat), c ≤ newLen + (newLen + 768) / 4 → Builtin.growBy newLen rounds c ≤ newLen + (newLen + 768) / 4
 | 0, c, h => h
 | r + 1, c, h => by
  simp only [Builtin.growBy]
  split
  ·exact h
  ·exact growBy_le newLen r _ (by omega)
theorem nextcap_le {need old : Nat} (h : old < need) : Builtin.nextslicecap need old ≤ 2 * need + 192 := by
 unfold Builtin.nextslicecap
 split
 ·omega
 ·split
  ·omega
  ·have := growBy_le need 4 old (by omega)
   omega
theorem mv_ext {C : Ctx} (hC : HRep C) {id : Nat} {k : RK} {sh : Sh} {es es' : List AV} (hid : C.H[id]? = some (.row k sh es)) (hl : (Blk.row k sh es).live)
  {c c' : Array Value} {T : TypeId} {fr : Nat × Nat} (hc : C.w.heap[C.β id]? = some (.cells c T fr)) :
  Ext C ⟨World.write C.w (C.β id) c' T fr, C.F, fun i => if i = C.H.length then C.β id else C.β i, C.H.set id .dead ++ [.row k sh es']⟩ where
 F := rfl
 os := rfl
 tape := rfl
 output := rfl
 size := by simp [World.write]
 len := by simp
 beta := fun i hi => by simp [Nat.ne_of_lt hi]
 keep := fun b hb ho => by
  have : C.β id ≠ b := fun e => ho ⟨id, _, hid, hl, e⟩
  simp [World.write, Array.getElem?_setIfInBounds_ne this]
 fresh := fun i m hi hm _ => by
  have := (List.getElem?_eq_some_iff.1 hm).1
  simp at this
  have : i = C.H.length := by omega
  subst this
  exact .inr ⟨id, _, hid, hl, by simp⟩
 rows := fun i kk s es2 hi he => by
  dsimp only at he
  rw [List.getElem?_append_left (by simpa using hi), List.getElem?_set] at he
  split at he
  ·split at he <;> simp at he
  ·rename_i e
   refine ⟨es2, he, rfl, fun hl2 => ?_⟩
   obtain ⟨c2, T2, fr2, hc2, _⟩ := hC.row i kk s es2 he hl2
   have : C.β id ≠ C.β i := fun h => e (hC.inj id i _ _ hid he hl hl2 h)
   exact ⟨c2, T2, fr2, c2, T2, fr2, hc2, by simp [World.write, Array.getElem?_setIfInBounds_ne this, hc2], rfl⟩
 maps := fun i es2 hi he => by
  dsimp only at he
  rw [List.getElem?_append_left (by simpa using hi), List.getElem?_set] at he
  split at he
  ·split at he <;> simp at he
  ·exact ⟨es2, he⟩
 ros := fun i s es2 hi he => by
  dsimp only at he
  rw [List.getElem?_append_left (by simpa using hi), List.getElem?_set] at he
  split at he
  ·split at he <;> simp at he
  ·exact .inl he
section
variable {C : Ctx} (hC : HRep C) {id : Nat} {k : RK} {sh : Sh} {es : List AV} (hid : C.H[id]? = some (.row k sh es)) (hk : k ≠ .box) (hl : (Blk.row k sh es).live)
  {c c' : Array Value} {T0 T : TypeId} {fr0 fr : Nat × Nat} (hc : C.w.heap[C.β id]? = some (.cells c T0 fr0)) (hpre : ∀ q, q < es.length * sh.size → c'[q]? = c[q]?)
include hC hid hl hc
theorem wro_G {b : Nat} (hb : C.G b ∨ b = C.β id) : (⟨World.write C.w (C.β id) c' T fr, C.F, C.β, C.H.set id (.ro sh es)⟩ : Ctx).G b := by
 have hlt := (Array.getElem?_eq_some_iff.1 hc).1
 have hno : ¬ (⟨World.write C.w (C.β id) c' T fr, C.F, C.β, C.H.set id (.ro sh es)⟩ : Ctx).owned b := by
  rintro ⟨j, m, hm, hlm, e⟩
  dsimp only at hm e
  rw [List.getElem?_set] at hm
  split at hm
  ·(try split at hm) <;> first | (have := Option.some.inj hm; subst this; exact hlm.elim) | simp at hm
  ·rename_i hne
   rcases hb with hb | rfl
   ·exact hb.2.2 ⟨j, m, hm, hlm, e⟩
   ·exact hne (hC.inj j _ _ _ hm hid hlm hl e).symm
 rcases hb with hb | rfl
 ·exact ⟨by simpa [World.write] using hb.1, hb.2.1, hno⟩
 ·exact ⟨by simpa [World.write] using hlt, hC.notF _ _ hid hl, hno⟩
theorem wro_same {b : Nat} (hb : C.G b) : (World.write C.w (C.β id) c' T fr).heap[b]? = C.w.heap[b]? := by
 have _ := hC; have _ := hc
 have : C.β id ≠ b := fun e => hb.2.2 ⟨id, _, hid, hl, e⟩
 simp [World.write, Array.getElem?_setIfInBounds_ne this]
include hk hpre
theorem wro_ext : Ext C ⟨World.write C.w (C.β id) c' T fr, C.F, C.β, C.H.set id (.ro sh es)⟩ where
 F := rfl
 os := rfl
 tape := rfl
 output := rfl
 size := by simp [World.write]
 len := by simp
 beta := fun i hi => rfl
 keep := fun b hb ho => by
  have : C.β id ≠ b := fun e => ho ⟨id, _, hid, hl, e⟩
  simp [World.write, Array.getElem?_setIfInBounds_ne this]
 fresh := fun i m hi hm _ => by
  have := (List.getElem?_eq_some_iff.1 hm).1
  simp at this
  omega
 rows := fun i kk s es2 hi he => by
  dsimp only at he
  rw [List.getElem?_set] at he
  split at he
  ·split at he <;> simp at he
  ·rename_i e
   refine ⟨es2, he, rfl, fun hl2 => ?_⟩
   obtain ⟨c2, T2, fr2, hc2, _⟩ := hC.row i kk s es2 he hl2
   have : C.β id ≠ C.β i := fun h => e (hC.inj id i _ _ hid he hl hl2 h)
   exact ⟨c2, T2, fr2, c2, T2, fr2, hc2, by simp [World.write, Array.getElem?_setIfInBounds_ne this, hc2], rfl⟩
 maps := fun i es2 hi he => by
  dsimp only at he
  rw [List.getElem?_set] at he
  split at he
  ·split at he <;> simp at he
  ·exact ⟨es2, he⟩
 ros := fun i s es2 hi he => by
  dsimp only at he
  rw [List.getElem?_set] at he
  split at he
  ·rename_i e; subst e
   rw [if_pos hi] at he
   simp only [Option.some.injEq, Blk.ro.injEq] at he
   obtain ⟨rfl, rfl⟩ := he
   refine .inr ⟨k, es, hid, rfl, fun _ => ⟨wro_G hC hid hl hc (.inr rfl), fun i hi => ?_⟩⟩
   obtain ⟨c2, T2, fr2, hc2, _, hsz, _, hrow⟩ := hC.row id k sh es hid hl
   rw [hc] at hc2; cases hc2
   obtain ⟨v, _, hv, hs, hcell⟩ := hrow i hi
   refine ⟨v, (hv hk).mono fun b hb => ⟨wro_G hC hid hl hc (.inl hb), wro_same hC hid hl hc hb⟩, hs, fun j hj => ?_⟩
   have hlt := (Array.getElem?_eq_some_iff.1 hc).1
   have hq := idx_lt hi hj
   simp only [World.cell?, World.write, Array.getElem?_setIfInBounds_self_of_lt hlt, Option.isSome_none, Bool.false_eq_true, if_false]
   rw [hpre _ hq]
   exact hcell j hj
  ·exact .inl he
theorem wro_hrep : HRep ⟨World.write C.w (C.β id) c' T fr, C.F, C.β, C.H.set id (.ro sh es)⟩ := by
 have hE := wro_ext (T := T) (fr := fr) hC hid hk hl hc hpre
 have old : ∀ {i : Nat} {m : Blk}, (C.H.set id (.ro sh es))[i]? = some m → m ≠ .ro sh es → i ≠ id ∧ C.H[i]? = some m := by
  intro i m hm hne
  rw [List.getElem?_set] at hm
  split at hm
  ·split at hm <;> simp at hm; exact absurd hm.symm hne
  ·rename_i e; exact ⟨fun h => e h.symm, hm⟩
 have nd : ∀ {m : Blk}, m.live → m ≠ .ro sh es := by rintro m hl rfl; exact hl.elim
 refine ⟨?_, ?_, ?_, ?_, ?_, ?_⟩
 ·intro i j m n hi hj hlm hln hb
  exact hC.inj i j m n (old hi (nd hlm)).2 (old hj (nd hln)).2 hlm hln hb
 ·intro i m hi hl
  exact hC.notF i m (old hi (nd hl)).2 hl
 ·intro b hb
  simpa [World.write] using hC.Flt b hb
 ·intro i kk sh2 es2 he
  exact hC.sz i kk sh2 es2 (old he (by simp)).2
 ·intro i kk sh2 es2 he hl2
  obtain ⟨e, h⟩ := old he (by simp)
  have hr : RowAt C (C.β i) kk sh2 es2 := hC.row i kk sh2 es2 h hl2
  have hne : C.β id ≠ C.β i := fun hb => e (hC.inj id i _ _ hid h hl hl2 hb).symm
  exact hr.ext hE (by simp [World.write, Array.getElem?_setIfInBounds_ne hne])
 ·intro i es2 he
  obtain ⟨e, h⟩ := old he (by simp)
  have hr : MapAt C (C.β i) es2 := hC.map i es2 h
  have hne : C.β id ≠ C.β i := fun hb => e (hC.inj id i _ _ hid h hl trivial hb).symm
  exact hr.ext hE (by simp [World.write, Array.getElem?_setIfInBounds_ne hne])
end
theorem mv_hrep {C : Ctx} (hC : HRep C) {id : Nat} {k : RK} {sh : Sh} {es es' : List AV} (hid : C.H[id]? = some (.row k sh es)) (hl : (Blk.row k sh es).live)
  {c c' : Array Value} {T : TypeId} {fr : Nat × Nat} (hc : C.w.heap[C.β id]? = some (.cells c T fr))
  (hrow : RowAt ⟨World.write C.w (C.β id) c' T fr, C.F, fun i => if i = C.H.length then C.β id else C.β i, C.H.set id .dead ++ [.row k sh es']⟩ (C.β id) k sh es') :
  HRep ⟨World.write C.w (C.β id) c' T fr, C.F, fun i => if i = C.H.length then C.β id else C.β i, C.H.set id .dead ++ [.row k sh es']⟩ := by
 have hE := mv_ext hC hid hl (es' := es') (c' := c') hc
 have old : ∀ {i : Nat} {m : Blk}, (C.H.set id .dead ++ [.row k sh es'])[i]? = some m → m ≠ .dead → (i = C.H.length ∧ m = .row k sh es') ∨ (i ≠ C.H.length ∧ i ≠ id ∧ C.H[i]? = some m) := by
  intro i m hm hne
  have hlt := (List.getElem?_eq_some_iff.1 hm).1
  simp at hlt
  rcases Nat.lt_or_ge i C.H.length with h1 | h1
  ·rw [List.getElem?_append_left (by simpa using h1), List.getElem?_set] at hm
   split at hm
   ·split at hm <;> simp at hm
    exact absurd hm.symm hne
   ·rename_i e
    exact .inr ⟨by omega, fun h => e h.symm, hm⟩
  ·have : i = C.H.length := by omega
   subst this
   have : C.H.length = (C.H.set id .dead).length := by simp
   rw [this, List.getElem?_append_right (Nat.le_refl _)] at hm
   simp at hm
   exact .inl ⟨rfl, hm.symm⟩
 have nd : ∀ {m : Blk}, m.live → m ≠ .dead := by rintro m hl rfl; exact hl.elim
 refine ⟨?_, ?_, ?_, ?_, ?_, ?_⟩
 ·intro i j m n hi hj hlm hln hb
  dsimp only at *
  rcases old hi (nd hlm) with ⟨e1, rfl⟩ | ⟨e1, e2, h1⟩ <;> rcases old hj (nd hln) with ⟨e3, rfl⟩ | ⟨e3, e4, h3⟩
  ·omega
  ·simp [e1, e3] at hb
   exact absurd (hC.inj id j _ _ hid h3 hl hln hb).symm e4
  ·simp [e1, e3] at hb
   exact absurd (hC.inj i id _ _ h1 hid hlm hl hb) e2
  ·simp [e1, e3] at hb
   exact hC.inj i j m n h1 h3 hlm hln hb
 ·intro i m hi hlm hF
  dsimp only at *
  rcases old hi (nd hlm) with ⟨e1, rfl⟩ | ⟨e1, e2, h1⟩
  ·simp [e1] at hF
   exact hC.notF id _ hid hl hF
  ·simp [e1] at hF
   exact hC.notF i m h1 hlm hF
 ·intro b hb
  simpa [World.write] using hC.Flt b hb
 ·intro i kk s es2 he
  rcases old he (by simp) with ⟨e1, h⟩ | ⟨_, _, h1⟩
  ·cases h; exact hC.sz id _ _ _ hid
  ·exact hC.sz i kk s es2 h1
 ·intro i kk s es2 he hl2
  rcases old he (by simp) with ⟨e1, h⟩ | ⟨e1, e2, h1⟩
  ·cases h; subst e1; simpa [RowAt] using hrow
  ·have hr : RowAt C (C.β i) kk s es2 := hC.row i kk s es2 h1 hl2
   have hne : C.β id ≠ C.β i := fun hb => e2 (hC.inj id i _ _ hid h1 hl hl2 hb).symm
   have := hr.ext hE (by simp [World.write, Array.getElem?_setIfInBounds_ne hne])
   simpa [RowAt, e1] using this
 ·intro i es2 he
  rcases old he (by simp) with ⟨e1, h⟩ | ⟨e1, e2, h1⟩
  ·cases h
  ·have hr : MapAt C (C.β i) es2 := hC.map i es2 h1
   have hne : C.β id ≠ C.β i := fun hb => e2 (hC.inj id i _ _ hid h1 hl trivial hb).symm
   have := hr.ext hE (by simp [World.write, Array.getElem?_setIfInBounds_ne hne])
   simpa [MapAt, e1] using this
section
variable {P : Program} (Γ : Tab P) {C : Ctx} (hC : HRep C) {a : Act} {fr : Fr} (hf : FrOk C a fr) {o : Oper} {next : AV → List Blk → Prop}
/-- What is appended: where its cells come from. -/
structure Src (P : Program) (C : Ctx) (sh : Sh) (t1 : TypeId) (v : Value) (e : TypeId) (z : Value) (xs : List AV) (cells : Array Value) (zeros : Bool) : Prop where
 d : (zeros = false ∧ (P.underlying t1 = some .string ∨ ∃ e', P.underlying t1 = some (.slice e'))) ∨ (zeros = true ∧ ∃ k, P.underlying t1 = some (.int k))
 lay : Lay C.w C.G sh cells xs
 num : zeros = true → ∃ k n, v = .int k n ∧ 0 ≤ n ∧ n ≤ 2 ^ 46 ∧ n.toNat = xs.length ∧ cells = Builtin.zeroCells z.cells xs.length
 len : zeros = false → ∀ w, (Builtin.lenOf v).run P w = .ok xs.length w
 first : zeros = false → ∀ w', w'.heap = C.w.heap → (Builtin.firstCells sh.size xs.length v).run P w' = .ok cells w'
include hC in
/-- The append itself, onto a slice of n elements that reads as `old`. -/
theorem append_run {t0 t1 e : TypeId} {i' : TypeInfo} {sh : Sh} {z : Value} {bytes : Nat} (hu : P.underlying t0 = some (.slice e)) (hi : P.info? e = some i') (hisz : i'.size = sh.size) (hib : i'.bytes = bytes) (hz : i'.zero = some z) (hzs : okSh z sh)
  (hb1 : 1 ≤ bytes) (hb2 : bytes ≤ 4294967296) (hp : 0 < sh.size) {x : Value} {xs : List AV} {cells : Array Value} {zeros : Bool} (hsrc : Src P C sh t1 x e z xs cells zeros)
  {base : Option Addr} {cap : Nat} {old : List AV} {oc : Array Value} (hlay : Lay C.w C.G sh oc old) (hfirst : ∀ w', w'.heap = C.w.heap → (Builtin.firstCells sh.size old.length (.slice base old.length cap)).run P w' = .ok oc w')
  (hgrow : cap < old.length + xs.length) (hbd : (old.length + xs.length) * bytes ≤ 2 ^ 46) (ty : TypeId) :
  ∃ (w' : World) (nc : Nat) (rest : Array Value), (Builtin.append_ #[t0, t1] ty #[.slice base old.length cap, x]).run P C.w = .ok (.slice (some ⟨C.w.heap.size, 0, none⟩) (old.length + xs.length) nc) w' ∧
   (∀ b, b < C.w.heap.size → w'.heap[b]? = C.w.heap[b]?) ∧ w'.os = C.w.os ∧ w'.tape = C.w.tape ∧ w'.output = C.w.output ∧
   w'.heap[C.w.heap.size]? = some (.cells (oc ++ cells ++ rest) e) ∧ (∀ (o : Nat) (y : Value), rest[o]? = some y → y.oneCell' = true) ∧ old.length + xs.length ≤ nc ∧ nc * sh.size ≤ (oc ++ cells ++ rest).size := by
 have _ := hC
 have hle : old.length + xs.length ≤ 2 ^ 46 := Nat.le_trans (Nat.le_mul_of_pos_right _ hb1) hbd
 -- the new capacity
 let ncap := (Question.appendCap (old.length + xs.length) cap e).cut (C.w.tape C.w.drawn (.appendCap (old.length + xs.length) cap e))
 have hnc : old.length + xs.length ≤ ncap := Nat.le_add_right _ _
 refine ⟨C.w.drew.alloc (.cells (oc ++ cells ++ Builtin.zeroCells z.cells (ncap - (old.length + xs.length))) e), ncap, Builtin.zeroCells z.cells (ncap - (old.length + xs.length)), ?_, push_pre _ _, rfl, rfl, rfl, alloc_last _ _, fun o y hy => zeroCells_one hzs _ hy, hnc, ?_⟩
 ·have hnx := nextcap_le hgrow
  have hbig : ¬ (Builtin.nextslicecap (old.length + xs.length) cap * bytes > 2 ^ 48) := by
   have h1 : Builtin.nextslicecap (old.length + xs.length) cap * bytes ≤ (2 * (old.length + xs.length) + 192) * bytes := Nat.mul_le_mul_right _ hnx
   have h2 : (2 * (old.length + xs.length) + 192) * bytes = 2 * ((old.length + xs.length) * bytes) + 192 * bytes := by rw [Nat.add_mul, Nat.mul_assoc]
   omega
  have hmax : ¬ (((old.length + xs.length : Nat) : Int) > IntKind.i64.max ∧ (zeros = true ∨ bytes = 0)) := by
   intro hh
   have : IntKind.i64.max = 9223372036854775807 := by decide
   omega
  have hdrew : ∀ (q : Question), q.forced = false → (choose q).run P C.w = .ok (q.cut (C.w.tape C.w.drawn q)) C.w.drew := by
   intro q hq; rw [run_choose, hq]; rfl
  have hq := hdrew (.appendCap (old.length + xs.length) cap e) rfl
  have hfo := hfirst C.w.drew rfl
  rcases hsrc.d with ⟨rfl, hd⟩ | ⟨rfl, k1, hd1⟩
  ·have hlen := hsrc.len rfl C.w
   have hfx := hsrc.first rfl C.w.drew rfl
   rcases hd with hd1 | ⟨e1, hd1⟩
   all_goals
    simp only [Builtin.append_, Sem.run_bind, List.getElem?_toArray, List.getElem?_cons_zero, List.getElem?_cons_succ, run_und C.w hu, Result.andThen_ok, run_sz C.w hi, run_und C.w hd1, Sem.run_pure, Bool.false_eq_true, if_false, hlen, Sem.run_ite]
    rw [if_neg (by omega)]
    simp only [run_ti C.w hi, Result.andThen_ok, hib]
    rw [if_neg (by simpa using hmax), if_neg hbig]
    simp only [hq, Result.andThen_ok, run_ti C.w.drew hi, run_askRoom, hisz, hfo, Bool.not_false, if_true, hfx, run_zero C.w.drew hi hz, newRow, Sem.run_bind, run_newObj, Sem.run_pure, World.alloc_eq, World.size_drew]
    rfl
  ·obtain ⟨k, n, rfl, hn0, hn1, hnl, rfl⟩ := hsrc.num rfl
   have hw : IntKind.i64.wrap n = n := by unfold IntKind.wrap; simp [IntKind.bits, IntKind.signed]; omega
   have hnb : ¬ (n * (bytes : Int) > 2 ^ 48) := by
    have h1 : n.toNat * bytes ≤ (old.length + xs.length) * bytes := Nat.mul_le_mul_right _ (by omega)
    have h2 : ((n.toNat * bytes : Nat) : Int) = n * bytes := by rw [Int.natCast_mul, Int.toNat_of_nonneg hn0]
    omega
   have hzc : (if xs.length * sh.size = 0 then (Result.ok #[] C.w.drew : Result (Array Value)) else Result.ok (Builtin.zeroCells z.cells xs.length) C.w.drew) = Result.ok (Builtin.zeroCells z.cells xs.length) C.w.drew := by
    split
    ·rename_i h0
     have : Builtin.zeroCells z.cells xs.length = #[] := by apply Array.eq_empty_of_size_eq_zero; rw [zeroCells_size, hzs.size]; exact h0
     rw [this]
    ·rfl
   simp only [Builtin.append_, Sem.run_bind, List.getElem?_toArray, List.getElem?_cons_zero, List.getElem?_cons_succ, run_und C.w hu, Result.andThen_ok, run_sz C.w hi, run_und C.w hd1, Sem.run_pure, if_true, asInt, asIntOf, hw, Sem.run_ite]
   rw [if_neg (by omega)]
   simp only [run_ti C.w hi, Result.andThen_ok, hib]
   rw [if_neg hnb, hnl, if_neg (by omega), if_neg (by simpa using hmax), if_neg hbig]
   simp only [hq, Result.andThen_ok, run_ti C.w.drew hi, run_askRoom, hisz, hfo, Bool.not_true, Bool.false_eq_true, if_false, run_zero C.w.drew hi hz, newRow, Sem.run_bind, run_newObj, Sem.run_pure, World.alloc_eq, World.size_drew, hzc]
   rfl
 ·have : (oc ++ cells ++ Builtin.zeroCells z.cells (ncap - (old.length + xs.length))).size = (old.length + xs.length) * sh.size + (ncap - (old.length + xs.length)) * sh.size := by
   simp [hlay.1, hsrc.lay.1, zeroCells_size, hzs.size, Nat.add_mul]; omega
  rw [this, ← Nat.add_mul]
  exact Nat.mul_le_mul_right _ (by omega)
include hC in
/-- The append where there is room. -/
theorem append_fits {t0 t1 e : TypeId} {i' : TypeInfo} {sh : Sh} {z : Value} {bytes : Nat} (hu : P.underlying t0 = some (.slice e)) (hi : P.info? e = some i') (hisz : i'.size = sh.size) (hib : i'.bytes = bytes) (hz : i'.zero = some z) (hzs : okSh z sh)
  (hb2 : bytes ≤ 4294967296) (hb1 : 1 ≤ bytes) {x : Value} {xs : List AV} {cells : Array Value} {zeros : Bool} (hsrc : Src P C sh t1 x e z xs cells zeros) (hxb : zeros = true → xs.length * bytes ≤ 2 ^ 46)
  {base : Option Addr} {len cap : Nat} (hfit : len + xs.length ≤ cap) (ty : TypeId) {w' : World}
  (hst : (match base with | some ad => storeCells (ad.add (len * sh.size)) cells.toList | none => pure ()).run P C.w = .ok () w') :
  (Builtin.append_ #[t0, t1] ty #[.slice base len cap, x]).run P C.w = .ok (.slice base (len + xs.length) cap) w' := by
 have _ := hC
 rcases hsrc.d with ⟨rfl, hd⟩ | ⟨rfl, k1, hd1⟩
 ·have hlen := hsrc.len rfl C.w
  have hfx := hsrc.first rfl C.w rfl
  rcases hd with hd1 | ⟨e1, hd1⟩
  all_goals
   simp only [Builtin.append_, Sem.run_bind, List.getElem?_toArray, List.getElem?_cons_zero, List.getElem?_cons_succ, run_und C.w hu, Result.andThen_ok, run_sz C.w hi, run_und C.w hd1, Sem.run_pure, Bool.false_eq_true, if_false, hlen, Sem.run_ite]
   rw [if_pos hfit]
   simp only [hisz, Bool.not_false, if_true, hfx, Result.andThen_ok]
   cases base with
   | none => simp at hst; simp [hst]
   | some ad => simp only [Sem.run_bind]; rw [hst]; rfl
 ·obtain ⟨k, n, rfl, hn0, hn1, hnl, rfl⟩ := hsrc.num rfl
  have hw : IntKind.i64.wrap n = n := by unfold IntKind.wrap; simp [IntKind.bits, IntKind.signed]; omega
  have hnb : ¬ (n * (bytes : Int) > 2 ^ 48) := by
   have h2 : ((n.toNat * bytes : Nat) : Int) = n * bytes := by rw [Int.natCast_mul, Int.toNat_of_nonneg hn0]
   rw [hnl] at h2
   have := hxb rfl
   omega
  have hzc : (if xs.length * sh.size = 0 then (Result.ok #[] C.w : Result (Array Value)) else Result.ok (Builtin.zeroCells z.cells xs.length) C.w) = Result.ok (Builtin.zeroCells z.cells xs.length) C.w := by
   split
   ·rename_i h0
    have : Builtin.zeroCells z.cells xs.length = #[] := by apply Array.eq_empty_of_size_eq_zero; rw [zeroCells_size, hzs.size]; exact h0
    rw [this]
   ·rfl
  simp only [Builtin.append_, Sem.run_bind, List.getElem?_toArray, List.getElem?_cons_zero, List.getElem?_cons_succ, run_und C.w hu, Result.andThen_ok, run_sz C.w hi, run_und C.w hd1, Sem.run_pure, if_true, asInt, asIntOf, hw, Sem.run_ite]
  rw [if_neg (by omega)]
  simp only [run_ti C.w hi, Result.andThen_ok, hib]
  rw [if_neg hnb, hnl, if_pos hfit]
  simp only [hisz, Bool.not_true, Bool.false_eq_true, if_false, run_zero C.w hi hz, Result.andThen_ok, hzc]
  cases base with
  | none => simp at hst; simp [hst]
  | some ad => simp only [Sem.run_bind]; rw [hst]; rfl
end
end Go.Bv
namespace Go.Bv
open Go
theorem own_list {C : Ctx} (hC : HRep C) {G : Nat → Prop} (hG : ∀ b, C.G b → G b) {v : Value} {id off len : Nat} (hr : RL C v (.own id off len)) {kk : RK} {sh : Sh} {es : List AV} (he : C.H[id]? = some (.row kk sh es)) (hkk : kk ≠ .box)
  (h1 : off + len ≤ es.length) (hid : (Blk.row kk sh es).live → G (C.β id)) : RP C.w G v (.list sh ((es.drop off).take len)) := by
 obtain ⟨hone, hlt, hv, _⟩ := hr
 obtain ⟨hn, hl⟩ := hv kk sh es he
 have hlen : ((es.drop off).take len).length = len := by simp; omega
 by_cases hlv : (Blk.row kk sh es).live
 ·obtain ⟨cap, rfl, e2, e3, c, T, fz, e4, e5⟩ := hl hlv
  obtain ⟨c', T', fz', hc', _, _, _, hel⟩ := hC.row id kk sh es he hlv
  rw [e4] at hc'; cases hc'
  have := RP.list (w := C.w) (G := G) sh (C.β id) (off * sh.size) cap ((es.drop off).take len) (fun q => if h : off + q < es.length then (hel (off + q) h).choose else undef) (by omega) (hid hlv)
   (fun q hq => by
    have hq' : off + q < es.length := by omega
    simp only [List.getElem_take, List.getElem_drop]
    rw [dif_pos hq']
    exact ((hel (off + q) hq').choose_spec.2.1 fun hk => hkk hk).mono fun b hb => ⟨hG b hb, rfl⟩)
   (fun q hq => by rw [dif_pos (show off + q < es.length by omega)]; exact (hel (off + q) (by omega)).choose_spec.2.2.1)
   (fun q j hq hj => by
    rw [dif_pos (show off + q < es.length by omega), ← (hel (off + q) (by omega)).choose_spec.2.2.2 j hj]
    simp only [World.cell?, e4, Option.isSome_none, Bool.false_eq_true, if_false]
    congr 1
    rw [Nat.add_mul])
  rw [hlen] at this
  exact this
 ·obtain ⟨ad, rfl, h0⟩ := hn hlv
  have : (es.drop off).take len = [] := by rw [h0]; simp
  rw [this]
  exact .list0 _ _ _
theorem ro_G {C : Ctx} (hC : HRep C) {id : Nat} {k : Blk} (hk : C.H[id]? = some k) (hlv : k.live) {sh : Sh} {es : List AV} : ({ C with H := C.H.set id (.ro sh es) } : Ctx).G (C.β id) := by
 refine ⟨hC.lt hk hlv, hC.notF id _ hk hlv, ?_⟩
 rintro ⟨i, m', hj, hjl, hb⟩
 dsimp only at hj hb
 rw [List.getElem?_set] at hj
 split at hj
 ·first | (split at hj <;> simp at hj; subst hj; exact hjl) | (have hj := Option.some.inj hj; subst hj; exact hjl)
 ·rename_i hne
  exact hne (hC.inj i id _ _ hj hk hjl hlv hb).symm
/-- New cells as a list. -/
theorem new_list' {C : Ctx} (hC : HRep C) {w' : World} (hpre : ∀ b, b < C.w.heap.size → w'.heap[b]? = C.w.heap[b]?) (hos : w'.os = C.w.os) (ht : w'.tape = C.w.tape) (ho : w'.output = C.w.output)
  {cells rest : Array Value} {T : TypeId} {fz : Nat × Nat} (hb : w'.heap[C.w.heap.size]? = some (.cells (cells ++ rest) T fz)) {sh : Sh} {es : List AV} (hl : Lay C.w C.G sh cells es) (hp : 0 < sh.size) {cap : Nat} (hlc : es.length ≤ cap) :
  Ext C { C with w := w' } ∧ HRep { C with w := w' } ∧ RT { C with w := w' } (.slice (some ⟨C.w.heap.size, 0, none⟩) es.length cap) (.list sh es) := by
 have hlt := (Array.getElem?_eq_some_iff.1 hb).1
 have hE := grow_ext hC w' hpre (by omega) hos ht ho
 refine ⟨hE, grow_hrep hC hpre (by omega) hos ht ho, ?_⟩
 have hro : RoAt w' ({ C with w := w' } : Ctx).G C.w.heap.size sh es := by
  refine ⟨⟨hlt, fun hF => by have := hC.Flt _ hF; omega, fun ho => ?_⟩, fun i hi => ?_⟩
  ·obtain ⟨id, k, hk, hlv, hb⟩ := ho
   have := hC.lt hk hlv
   dsimp only at hb; omega
  ·obtain ⟨v, hv, hs, hc⟩ := hl.2 i hi
   refine ⟨v, hE.RP hv, hs, fun j hj => ?_⟩
   have := idx_lt hi hj
   simp only [World.cell?, hb, Option.isSome_none, Bool.false_eq_true, if_false]
   rw [Array.getElem?_append_left (by rw [hl.1]; exact this)]
   exact hc j hj
 have := hro.list (off := 0) (len := es.length) (cap := cap) (by omega) hlc
 rw [Nat.zero_mul, List.drop_zero, List.take_length] at this
 exact RP.RT (C := { C with w := w' }) this
/-- An answer that is an owned row, as a list. -/
theorem Yield.frz {P : Program} {o : Oper} {a : Act} {C : Ctx} {H' : List Blk} {id off len : Nat} {kk : RK} {sh : Sh} {es : List AV} (h : Yield P o a C (.own id off len) H') (he : H'[id]? = some (.row kk sh es)) (hkk : kk ≠ .box) (hle : off + len ≤ es.length) :
  Yield P o a C (.list sh ((es.drop off).take len)) (H'.set id (.ro sh es)) := by
 intro K Q hk
 refine h K Q fun v C' hH hE hC' hv => ?_
 subst hH
 have hE1 := ro_ext hC' he hkk
 have hC1 := ro_hrep hC' he hkk
 have := own_list hC' (G := ({ C' with H := C'.H.set id (.ro sh es) } : Ctx).G) (fun b hb => (hE1.G hb).1) hv he hkk hle (fun hl => ro_G hC' he hl)
 exact hk v { C' with H := C'.H.set id (.ro sh es) } rfl (hE.trans hE1) hC1 (RP.RT (C := { C' with H := C'.H.set id (.ro sh es) }) this)
section
variable {P : Program} (Γ : Tab P) {C : Ctx} (hC : HRep C) {a : Act} {fr : Fr} (hf : FrOk C a fr) {o : Oper} {next : AV → List Blk → Prop}
include hC
theorem go_snd {t0 t1 e : TypeId} {ti' : TI} {i' : TypeInfo} {d' : TypeDesc} {z : Value} (hu : P.underlying t0 = some (.slice e)) (hi : TInfo P e ti' i' d') (hz : i'.zero = some z) (hzs : okSh z ti'.sh)
  (hb1 : 1 ≤ ti'.bytes) (hp : 0 < ti'.sh.size) {x : Value} {xs : List AV} {cells : Array Value} {zeros : Bool} (hsrc : Src P C ti'.sh t1 x e z xs cells zeros) (hxb : zeros = true → xs.length * ti'.bytes ≤ 2 ^ 46)
  {s : AV} {v : Value} (hv : RT C v s) (h : aopGo C.H ti'.sh ti'.bytes s next xs) (ty : TypeId) (hrun : ∀ r w', (Builtin.append_ #[t0, t1] ty #[v, x]).run P C.w = .ok r w' → (execOp a.eval o).run P C.w = .ok (.value r) w') : Snd P o a C next := by
 unfold aopGo at h
 split at h
 ·-- onto nil
  obtain ⟨hbd, h⟩ := h
  have hv := hv.nils; subst hv
  by_cases h0 : xs.length = 0
  ·have : xs = [] := List.eq_nil_of_length_eq_zero h0
   subst this
   have hcs : cells = #[] := by apply Array.eq_empty_of_size_eq_zero; rw [hsrc.lay.1]; simp
   have hr := append_fits (P := P) hC hu hi.info hi.sz hi.bytes hz hzs hi.small hb1 hsrc hxb (base := none) (len := 0) (cap := 0) (by simp) ty (w' := C.w) rfl
   exact Snd.mk h (new_none hC (fun _ _ => rfl) (Nat.le_refl _) rfl rfl rfl hp none) (hrun _ _ hr)
  ·obtain ⟨w', nc, rest, hr, hpre, hos, ht, ho, hb, hone, hnc, hncs⟩ := append_run (P := P) hC hu hi.info hi.sz hi.bytes hz hzs hb1 hi.small hp hsrc (base := none) (cap := 0) (old := []) (oc := #[]) .nil (fun w' _ => rfl) (by simp; omega) (by simpa using hbd) ty
   simp only [List.length_nil, Nat.zero_add, Array.empty_append] at hr hb hnc hncs
   refine Snd.mk h (new_row hC hpre hos ht ho hb (.inl rfl) hone hsrc.lay hp hncs hnc (fun _ hh => by subst hh; simp at h0)) (hrun _ _ hr)
 ·rename_i id off len
  split at h
  ·rename_i kk s2 es hid
   split at h
   ·exact h.elim
   ·rename_i hkk
    split at h
    ·rename_i hbq
     have := Sh.beq_eq hbq; subst this
     have hv0 := hv
     obtain ⟨_, _, hv, _⟩ := hv
     obtain ⟨hvn, hvl⟩ := hv kk _ es hid
     cases h with
     | endd h0 h1 hbd hn =>
      subst h0 h1
      by_cases hl : (Blk.row kk ti'.sh es).live
      ·obtain ⟨cap, rfl, hcap, hes, c, T, fz, hc, hcs⟩ := hvl hl
       obtain ⟨c', T', fz', hc', hfz, hsz, hone, hel⟩ := hC.row id kk _ es hid hl
       rw [hc] at hc'; cases hc'
       by_cases hfit : es.length + xs.length ≤ cap
       ·-- in place
        have hcap2 : (es.length + xs.length) * ti'.sh.size ≤ c.size := by
         have h1 := Nat.mul_le_mul_right ti'.sh.size hfit
         rw [Nat.zero_add] at hcs
         omega
        have hcl : cells.toList.length = xs.length * ti'.sh.size := by simp [hsrc.lay.1]
        have hcap3 : es.length * ti'.sh.size + xs.length * ti'.sh.size ≤ c.size := by rw [← Nat.add_mul]; exact hcap2
        have hst := run_storeCells_rep (P := P) (b := C.β id) (o := es.length * ti'.sh.size) (T := T) (fr := fz) cells.toList 0 c C.w hc (by omega) (fzNot hfz) (fun v hv => by
         rw [Array.mem_toList_iff] at hv
         obtain ⟨i, hi, rfl⟩ := Array.mem_iff_getElem.1 hv
         exact hsrc.lay.one hp (Array.getElem?_eq_getElem hi))
        rw [Nat.add_zero] at hst
        have hr := append_fits (P := P) hC hu hi.info hi.sz hi.bytes hz hzs hi.small hb1 hsrc hxb (base := some ⟨C.β id, 0 * ti'.sh.size, none⟩) (len := es.length) (cap := cap) hfit ty (by
         simp only [addr_add, Nat.zero_mul, Nat.zero_add]; exact hst)
        have hE := mv_ext hC hid hl (es' := es ++ xs) (c' := writeAt c (es.length * ti'.sh.size) cells.toList) hc
        have hget : ∀ q, (writeAt c (es.length * ti'.sh.size) cells.toList)[q]? = if es.length * ti'.sh.size ≤ q ∧ q < es.length * ti'.sh.size + xs.length * ti'.sh.size then cells[q - es.length * ti'.sh.size]? else c[q]? := by
         intro q
         have := writeAt_get cells.toList c (es.length * ti'.sh.size) q (by omega)
         rw [hcl, Array.getElem?_toList] at this
         exact this
        have hlt := (Array.getElem?_eq_some_iff.1 hc).1
        have hrow : RowAt ⟨World.write C.w (C.β id) (writeAt c (es.length * ti'.sh.size) cells.toList) T fz, C.F, fun i => if i = C.H.length then C.β id else C.β i, C.H.set id .dead ++ [.row kk ti'.sh (es ++ xs)]⟩ (C.β id) kk ti'.sh (es ++ xs) := by
         refine ⟨writeAt c (es.length * ti'.sh.size) cells.toList, T, fz, by simp [World.write, hlt], by rw [writeAt_size]; exact hfz, by rw [writeAt_size, List.length_append]; exact hcap2, fun q y hy => ?_, fun i hi' => ?_⟩
         ·rw [hget] at hy
          split at hy
          ·exact hsrc.lay.one hp hy
          ·exact hone q y hy
         ·simp only [List.length_append] at hi'
          by_cases hlt2 : i < es.length
          ·obtain ⟨u, hu1, hu2, hu3, hu4⟩ := hel i hlt2
           refine ⟨u, by rw [List.getElem_append_left hlt2]; exact hE.RA hu1, fun hk => by rw [List.getElem_append_left hlt2]; exact hE.RP (hu2 hk), hu3, fun j hj => ?_⟩
           have := idx_lt hlt2 hj
           rw [hget, if_neg (by omega)]
           exact hu4 j hj
          ·obtain ⟨u, hu1, hu2, hu3⟩ := hsrc.lay.2 (i - es.length) (by omega)
           refine ⟨u, by rw [List.getElem_append_right (by omega)]; exact hE.RA hu1.RA, fun hk => by rw [List.getElem_append_right (by omega)]; exact hE.RP hu1, hu2, fun j hj => ?_⟩
           have e1 : i * ti'.sh.size = es.length * ti'.sh.size + (i - es.length) * ti'.sh.size := by rw [← Nat.add_mul]; congr 1; omega
           have := idx_lt (show i - es.length < xs.length by omega) hj
           rw [hget, if_pos (by omega), ← hu3 j hj]
           congr 1; omega
        refine Snd.mk hn ⟨_, rfl, rfl, hE, mv_hrep hC hid hl hc hrow, rfl, by simp, fun kk2 s3 es3 he => ?_, fun kk2 s3 es3 he => ?_, fun s3 es3 he => ?_⟩ (hrun _ _ hr)
        all_goals have hlen : C.H.length = (C.H.set id .dead).length := by simp
        rotate_left
        ·dsimp only at he
         rw [hlen, List.getElem?_append_right (Nat.le_refl _)] at he
         simp at he
         obtain ⟨rfl, rfl, rfl⟩ := he
         simp
        ·dsimp only at he
         rw [hlen, List.getElem?_append_right (Nat.le_refl _)] at he
         simp at he
        dsimp only at he
        rw [hlen, List.getElem?_append_right (Nat.le_refl _)] at he
        simp at he
        obtain ⟨rfl, rfl, rfl⟩ := he
        refine ⟨fun hn => absurd ?_ hn, fun _ => ⟨cap, by simp, by simpa using hfit, by simp; omega, writeAt c (es.length * ti'.sh.size) cells.toList, T, fz, by simp [World.write, hlt], by rw [writeAt_size]; exact hcs⟩⟩
        cases kk <;> simp [Blk.live] at hl ⊢
        exact fun h => absurd h hl
       ·-- elsewhere
        have hC1 := kill_hrep hC id
        have hE1 := kill_ext hC id
        have hlay : Lay C.w C.G ti'.sh (c.extract 0 (es.length * ti'.sh.size)) es := by
         refine ⟨by simp; omega, fun i hi' => ?_⟩
         obtain ⟨u, hu1, hu2, hu3, hu4⟩ := hel i hi'
         refine ⟨u, hu2 (fun hk => hkk hk), hu3, fun j hj => ?_⟩
         have := idx_lt hi' hj
         rw [Array.getElem?_extract, if_pos (by omega), Nat.zero_add]
         exact hu4 j hj
        obtain ⟨w', nc, rest, hr, hpre, hos, ht, ho, hb, hone', hnc, hncs⟩ := append_run (P := P) hC hu hi.info hi.sz hi.bytes hz hzs hb1 hi.small hp hsrc (base := some ⟨C.β id, 0 * ti'.sh.size, none⟩) (cap := cap) (old := es) (oc := c.extract 0 (es.length * ti'.sh.size)) hlay (fun w' hw => by
         simp only [Builtin.firstCells]
         have hsz2 : (c.extract 0 (es.length * ti'.sh.size)).size = es.length * ti'.sh.size := by simp; omega
         have hrl := run_loadCells_rep (P := P) (w := w') (b := C.β id) (o := 0) (cs := c.extract 0 (es.length * ti'.sh.size)) (fun q hq => by
          rw [hsz2] at hq
          rw [Array.getElem?_extract, if_pos (by omega)]
          simp only [World.cell?, hw, hc, Option.isSome_none, Bool.false_eq_true, if_false])
         rw [hsz2] at hrl
         rw [Nat.zero_mul]
         exact hrl) (by omega) hbd ty
        have hrow := new_row hC1 (w' := w') (k := kk) hpre hos ht ho hb (.inl rfl) hone' ((hlay.append hsrc.lay).mono fun b hb => hE1.G hb) hp hncs (by simpa using hnc) (fun hk hh => by
         subst hk
         have : es = [] := by simp at hh; exact hh.1
         exact absurd this hl)
        simp only [List.length_append, List.length_set] at hrow hn ⊢
        obtain ⟨C2, hw2, hH2, hE2, hC2, hr2⟩ := hrow
        exact Snd.mk hn ⟨C2, hw2, hH2, hE1.trans hE2, hC2, hr2⟩ (hrun _ _ hr)
      ·-- an empty one without memory
       obtain ⟨rfl, rfl⟩ := Blk.not_live_row hl
       obtain ⟨ad, rfl, _⟩ := hvn hl
       have hC1 := kill_hrep hC id
       have hE1 := kill_ext hC id
       by_cases h0 : xs.length = 0
       ·have : xs = [] := List.eq_nil_of_length_eq_zero h0
        subst this
        have hcs : cells = #[] := by apply Array.eq_empty_of_size_eq_zero; rw [hsrc.lay.1]; simp
        have hr := append_fits (P := P) hC hu hi.info hi.sz hi.bytes hz hzs hi.small hb1 hsrc hxb (base := ad) (len := 0) (cap := 0) (by simp) ty (w' := C.w) (by subst hcs; cases ad <;> rfl)
        obtain ⟨C2, hw2, hH2, hE2, hC2, hr2⟩ := new_none hC1 (w' := C.w) (fun _ _ => rfl) (Nat.le_refl _) rfl rfl rfl hp ad
        simp only [List.length_set] at hr2
        exact Snd.mk hn ⟨C2, hw2, hH2, hE1.trans hE2, hC2, hr2⟩ (hrun _ _ hr)
       ·obtain ⟨w', nc, rest, hr, hpre, hos, ht, ho, hb, hone', hnc, hncs⟩ := append_run (P := P) hC hu hi.info hi.sz hi.bytes hz hzs hb1 hi.small hp hsrc (base := ad) (cap := 0) (old := []) (oc := #[]) .nil (fun w' _ => firstCells_zero w') (by simp; omega) hbd ty
        simp only [List.length_nil, Nat.zero_add, Array.empty_append] at hr hb hnc hncs
        obtain ⟨C2, hw2, hH2, hE2, hC2, hr2⟩ := new_row hC1 (w' := w') (k := .vrow) hpre hos ht ho hb (.inl rfl) hone' (hsrc.lay.mono fun b hb => hE1.G hb) hp hncs hnc (fun _ hh => by subst hh; simp at h0)
        simp only [List.length_set] at hr2
        simp only [List.nil_append] at hn
        exact Snd.mk hn ⟨C2, hw2, hH2, hE1.trans hE2, hC2, hr2⟩ (hrun _ _ hr)
     | ro h0 h1 hbd hn =>
      subst h0 h1
      have hE1 := ro_ext hC hid hkk
      have hC1 := ro_hrep hC hid hkk
      by_cases hl : (Blk.row kk ti'.sh es).live
      ·obtain ⟨cap, rfl, hcap, hes, c, T, fz, hc, hcs⟩ := hvl hl
       obtain ⟨c', T', fz', hc', hfz, hsz, hone, hel⟩ := hC.row id kk _ es hid hl
       rw [hc] at hc'; cases hc'
       by_cases hfit : es.length + xs.length ≤ cap
       ·-- in place
        have hcap2 : (es.length + xs.length) * ti'.sh.size ≤ c.size := by
         have h1 := Nat.mul_le_mul_right ti'.sh.size hfit
         rw [Nat.zero_add] at hcs
         omega
        have hcl : cells.toList.length = xs.length * ti'.sh.size := by simp [hsrc.lay.1]
        have hcap3 : es.length * ti'.sh.size + xs.length * ti'.sh.size ≤ c.size := by rw [← Nat.add_mul]; exact hcap2
        have hst := run_storeCells_rep (P := P) (b := C.β id) (o := es.length * ti'.sh.size) (T := T) (fr := fz) cells.toList 0 c C.w hc (by omega) (fzNot hfz) (fun v hv => by
         rw [Array.mem_toList_iff] at hv
         obtain ⟨i, hi, rfl⟩ := Array.mem_iff_getElem.1 hv
         exact hsrc.lay.one hp (Array.getElem?_eq_getElem hi))
        rw [Nat.add_zero] at hst
        have hr := append_fits (P := P) hC hu hi.info hi.sz hi.bytes hz hzs hi.small hb1 hsrc hxb (base := some ⟨C.β id, 0 * ti'.sh.size, none⟩) (len := es.length) (cap := cap) hfit ty (by
         simp only [addr_add, Nat.zero_mul, Nat.zero_add]; exact hst)
        have hget : ∀ q, (writeAt c (es.length * ti'.sh.size) cells.toList)[q]? = if es.length * ti'.sh.size ≤ q ∧ q < es.length * ti'.sh.size + xs.length * ti'.sh.size then cells[q - es.length * ti'.sh.size]? else c[q]? := by
         intro q
         have := writeAt_get cells.toList c (es.length * ti'.sh.size) q (by omega)
         rw [hcl, Array.getElem?_toList] at this
         exact this
        have hlt := (Array.getElem?_eq_some_iff.1 hc).1
        have hprek : ∀ q, q < es.length * ti'.sh.size → (writeAt c (es.length * ti'.sh.size) cells.toList)[q]? = c[q]? := fun q hq => by rw [hget, if_neg (by omega)]
        have hE := wro_ext (T := T) (fr := fz) hC hid hkk hl hc hprek
        have hro : RoAt (World.write C.w (C.β id) (writeAt c (es.length * ti'.sh.size) cells.toList) T fz) (⟨World.write C.w (C.β id) (writeAt c (es.length * ti'.sh.size) cells.toList) T fz, C.F, C.β, C.H.set id (.ro ti'.sh es)⟩ : Ctx).G (C.β id) ti'.sh (es ++ xs) := by
         refine ⟨wro_G hC hid hl hc (.inr rfl), fun i hi' => ?_⟩
         simp only [List.length_append] at hi'
         have hcell : ∀ (q : Nat), (World.write C.w (C.β id) (writeAt c (es.length * ti'.sh.size) cells.toList) T fz).cell? ⟨C.β id, q, none⟩ = (writeAt c (es.length * ti'.sh.size) cells.toList)[q]? := fun q => by
          simp only [World.cell?, World.write, Array.getElem?_setIfInBounds_self_of_lt hlt, Option.isSome_none, Bool.false_eq_true, if_false]
         by_cases hlt2 : i < es.length
         ·obtain ⟨u, hu1, hu2, hu3, hu4⟩ := hel i hlt2
          refine ⟨u, by rw [List.getElem_append_left hlt2]; exact hE.RP (hu2 hkk), hu3, fun j hj => ?_⟩
          have := idx_lt hlt2 hj
          rw [hcell, hget, if_neg (by omega)]
          exact hu4 j hj
         ·obtain ⟨u, hu1, hu2, hu3⟩ := hsrc.lay.2 (i - es.length) (by omega)
          refine ⟨u, by rw [List.getElem_append_right (by omega)]; exact hE.RP hu1, hu2, fun j hj => ?_⟩
          have e1 : i * ti'.sh.size = es.length * ti'.sh.size + (i - es.length) * ti'.sh.size := by rw [← Nat.add_mul]; congr 1; omega
          have := idx_lt (show i - es.length < xs.length by omega) hj
          rw [hcell, hget, if_pos (by omega), ← hu3 j hj]
          congr 1; omega
        have hrp := hro.list (off := 0) (len := (es ++ xs).length) (cap := cap) (by omega) (by simpa using hfit)
        rw [List.drop_zero, List.take_length, List.length_append] at hrp
        exact Snd.mk hn ⟨_, rfl, rfl, hE, wro_hrep hC hid hkk hl hc hprek, RP.RT (C := ⟨World.write C.w (C.β id) (writeAt c (es.length * ti'.sh.size) cells.toList) T fz, C.F, C.β, C.H.set id (.ro ti'.sh es)⟩) hrp⟩ (hrun _ _ hr)
       ·-- elsewhere
        have hlay : Lay C.w C.G ti'.sh (c.extract 0 (es.length * ti'.sh.size)) es := by
         refine ⟨by simp; omega, fun i hi' => ?_⟩
         obtain ⟨u, hu1, hu2, hu3, hu4⟩ := hel i hi'
         refine ⟨u, hu2 (fun hk => hkk hk), hu3, fun j hj => ?_⟩
         have := idx_lt hi' hj
         rw [Array.getElem?_extract, if_pos (by omega), Nat.zero_add]
         exact hu4 j hj
        obtain ⟨w', nc, rest, hr, hpre, hos, ht, ho, hb, hone', hnc, hncs⟩ := append_run (P := P) hC hu hi.info hi.sz hi.bytes hz hzs hb1 hi.small hp hsrc (base := some ⟨C.β id, 0 * ti'.sh.size, none⟩) (cap := cap) (old := es) (oc := c.extract 0 (es.length * ti'.sh.size)) hlay (fun w' hw => by
         simp only [Builtin.firstCells]
         have hsz2 : (c.extract 0 (es.length * ti'.sh.size)).size = es.length * ti'.sh.size := by simp; omega
         have hrl := run_loadCells_rep (P := P) (w := w') (b := C.β id) (o := 0) (cs := c.extract 0 (es.length * ti'.sh.size)) (fun q hq => by
          rw [hsz2] at hq
          rw [Array.getElem?_extract, if_pos (by omega)]
          simp only [World.cell?, hw, hc, Option.isSome_none, Bool.false_eq_true, if_false])
         rw [hsz2] at hrl
         rw [Nat.zero_mul]
         exact hrl) (by omega) hbd ty
        obtain ⟨hE2, hC2, hr2⟩ := new_list' hC1 (w' := w') hpre hos ht ho hb ((hlay.append hsrc.lay).mono fun b hb => hE1.G hb) hp (cap := nc) (by simpa using hnc)
        rw [List.length_append] at hr2
        exact Snd.mk hn ⟨_, rfl, rfl, hE1.trans hE2, hC2, hr2⟩ (hrun _ _ hr)
      ·-- an empty one without memory
       obtain ⟨rfl, rfl⟩ := Blk.not_live_row hl
       obtain ⟨ad, rfl, _⟩ := hvn hl
       by_cases h0 : xs.length = 0
       ·have : xs = [] := List.eq_nil_of_length_eq_zero h0
        subst this
        have hcs : cells = #[] := by apply Array.eq_empty_of_size_eq_zero; rw [hsrc.lay.1]; simp
        have hr := append_fits (P := P) hC hu hi.info hi.sz hi.bytes hz hzs hi.small hb1 hsrc hxb (base := ad) (len := 0) (cap := 0) (by simp) ty (w' := C.w) (by subst hcs; cases ad <;> rfl)
        exact Snd.mk hn ⟨_, rfl, rfl, hE1, hC1, RP.RT (C := { C with H := C.H.set id (.ro ti'.sh []) }) (.list0 _ _ _)⟩ (hrun _ _ hr)
       ·obtain ⟨w', nc, rest, hr, hpre, hos, ht, ho, hb, hone', hnc, hncs⟩ := append_run (P := P) hC hu hi.info hi.sz hi.bytes hz hzs hb1 hi.small hp hsrc (base := ad) (cap := 0) (old := []) (oc := #[]) .nil (fun w' _ => firstCells_zero w') (by simp; omega) hbd ty
        simp only [List.length_nil, Nat.zero_add, Array.empty_append] at hr hb hnc hncs
        obtain ⟨hE2, hC2, hr2⟩ := new_list' hC1 (w' := w') hpre hos ht ho hb (hsrc.lay.mono fun b hb => hE1.G hb) hp (cap := nc) hnc
        simp only [List.nil_append] at hn
        exact Snd.mk hn ⟨_, rfl, rfl, hE1.trans hE2, hC2, hr2⟩ (hrun _ _ hr)
     | inpl h1 hn =>
      by_cases hl : (Blk.row kk ti'.sh es).live
      ·obtain ⟨cap, rfl, hcap, hes, c, T, fz, hc, hcs⟩ := hvl hl
       obtain ⟨c', T', fz', hc', hfz, hsz, hone, hel⟩ := hC.row id kk _ es hid hl
       rw [hc] at hc'; cases hc'
       have hcl : cells.toList.length = xs.length * ti'.sh.size := by simp [hsrc.lay.1]
       have hcap2 : (off + len + xs.length) * ti'.sh.size ≤ c.size := Nat.le_trans (Nat.mul_le_mul_right _ h1) hsz
       have hcap3 : (off + len) * ti'.sh.size + xs.length * ti'.sh.size ≤ c.size := by rw [← Nat.add_mul]; exact hcap2
       have hst := run_storeCells_rep (P := P) (b := C.β id) (o := (off + len) * ti'.sh.size) (T := T) (fr := fz) cells.toList 0 c C.w hc (by omega) (fzNot hfz) (fun v hv => by
        rw [Array.mem_toList_iff] at hv
        obtain ⟨i, hi, rfl⟩ := Array.mem_iff_getElem.1 hv
        exact hsrc.lay.one hp (Array.getElem?_eq_getElem hi))
       rw [Nat.add_zero] at hst
       have hr := append_fits (P := P) hC hu hi.info hi.sz hi.bytes hz hzs hi.small hb1 hsrc hxb (base := some ⟨C.β id, off * ti'.sh.size, none⟩) (len := len) (cap := cap) (by omega) ty (by
        simp only [addr_add, ← Nat.add_mul]; exact hst)
       have hlen : (es.take (off + len) ++ (xs ++ es.drop (off + len + xs.length))).length = es.length := by simp; omega
       have hsz' : (writeAt c ((off + len) * ti'.sh.size) cells.toList).size = c.size := writeAt_size _ _ _
       have hE := set_ext hC hid hl hlen hc hsz'
       have hget : ∀ q, (writeAt c ((off + len) * ti'.sh.size) cells.toList)[q]? = if (off + len) * ti'.sh.size ≤ q ∧ q < (off + len) * ti'.sh.size + xs.length * ti'.sh.size then cells[q - (off + len) * ti'.sh.size]? else c[q]? := by
        intro q
        have := writeAt_get cells.toList c ((off + len) * ti'.sh.size) q (by omega)
        rw [hcl, Array.getElem?_toList] at this
        exact this
       have hlt := (Array.getElem?_eq_some_iff.1 hc).1
       have hrow : RowAt { C with w := World.write C.w (C.β id) (writeAt c ((off + len) * ti'.sh.size) cells.toList) T fz, H := C.H.set id (.row kk ti'.sh (es.take (off + len) ++ (xs ++ es.drop (off + len + xs.length)))) } (C.β id) kk ti'.sh (es.take (off + len) ++ (xs ++ es.drop (off + len + xs.length))) := by
        refine ⟨writeAt c ((off + len) * ti'.sh.size) cells.toList, T, fz, by simp [World.write, hlt], by rw [writeAt_size]; exact hfz, by rw [writeAt_size, hlen]; exact hsz, fun q y hy => ?_, fun i hi' => ?_⟩
        ·rw [hget] at hy
         split at hy
         ·exact hsrc.lay.one hp hy
         ·exact hone q y hy
        ·have hi2 : i < es.length := by rw [hlen] at hi'; exact hi'
         by_cases hin : off + len ≤ i ∧ i < off + len + xs.length
         ·obtain ⟨u, hu1, hu2, hu3⟩ := hsrc.lay.2 (i - (off + len)) (by omega)
          have eg : (es.take (off + len) ++ (xs ++ es.drop (off + len + xs.length)))[i]'hi' = xs[i - (off + len)]'(by omega) := by
           rw [List.getElem_append_right (by simp; omega), List.getElem_append_left (by simp; omega)]
           congr 1; simp; omega
          refine ⟨u, by rw [eg]; exact hE.RA hu1.RA, fun hk => by rw [eg]; exact hE.RP hu1, hu2, fun j hj => ?_⟩
          have e1 : i * ti'.sh.size = (off + len) * ti'.sh.size + (i - (off + len)) * ti'.sh.size := by rw [← Nat.add_mul]; congr 1; omega
          have := idx_lt (show i - (off + len) < xs.length by omega) hj
          rw [hget, if_pos (by omega), ← hu3 j hj]
          congr 1; omega
         ·obtain ⟨u, hu1, hu2, hu3, hu4⟩ := hel i hi2
          have eg : (es.take (off + len) ++ (xs ++ es.drop (off + len + xs.length)))[i]'hi' = es[i]'hi2 := by
           rcases Nat.lt_or_ge i (off + len) with h4 | h4
           ·rw [List.getElem_append_left (by simp; omega)]; simp
           ·rw [List.getElem_append_right (by simp; omega), List.getElem_append_right (by simp; omega)]
            simp only [List.getElem_drop, List.length_take]
            congr 1; omega
          refine ⟨u, by rw [eg]; exact hE.RA hu1, fun hk => by rw [eg]; exact hE.RP (hu2 hk), hu3, fun j hj => ?_⟩
          rw [hget, if_neg]
          ·exact hu4 j hj
          ·intro hh
           rcases Nat.lt_or_ge i (off + len) with h4 | h4
           ·have := idx_lt h4 hj; omega
           ·have h5 : (off + len + xs.length) * ti'.sh.size ≤ i * ti'.sh.size := Nat.mul_le_mul_right _ (by omega)
            rw [Nat.add_mul (off + len)] at h5; omega
       refine Snd.mk hn ⟨_, rfl, rfl, hE, set_hrep hC hid hl hlen hc hsz' hrow, rfl, by simpa using (List.getElem?_eq_some_iff.1 hid).1, fun kk2 s3 es3 he => ?_, fun kk2 s3 es3 he => ?_, fun s3 es3 he => ?_⟩ (hrun _ _ hr)
       rotate_left
       ·dsimp only at he
        rw [List.getElem?_set_self (List.getElem?_eq_some_iff.1 hid).1] at he
        simp only [Option.some.injEq, Blk.row.injEq] at he
        obtain ⟨rfl, rfl, rfl⟩ := he
        rw [hlen]; omega
       ·dsimp only at he
        rw [List.getElem?_set_self (List.getElem?_eq_some_iff.1 hid).1] at he
        simp at he
       dsimp only at he
       rw [List.getElem?_set_self (List.getElem?_eq_some_iff.1 hid).1] at he
       simp only [Option.some.injEq, Blk.row.injEq] at he
       obtain ⟨rfl, rfl, rfl⟩ := he
       exact ⟨fun hn => absurd (Blk.live_row hlen.symm hl) hn, fun _ => ⟨cap, rfl, by omega, by rw [hlen]; exact hes, writeAt c ((off + len) * ti'.sh.size) cells.toList, T, fz, by simp [World.write, hlt], by rw [writeAt_size]; exact hcs⟩⟩
      ·obtain ⟨rfl, rfl⟩ := Blk.not_live_row hl
       obtain ⟨ad, rfl, h0⟩ := hvn hl
       simp only [List.length_nil, Nat.le_zero] at h1
       have hx0 : xs = [] := List.eq_nil_of_length_eq_zero (by omega)
       have hoff : off = 0 := by omega
       subst hx0 h0 hoff
       have hcs : cells = #[] := by apply Array.eq_empty_of_size_eq_zero; rw [hsrc.lay.1]; simp
       have hr := append_fits (P := P) hC hu hi.info hi.sz hi.bytes hz hzs hi.small hb1 hsrc hxb (base := ad) (len := 0) (cap := 0) (by simp) ty (w' := C.w) (by subst hcs; cases ad <;> rfl)
       have hset : C.H.set id (.row .vrow ti'.sh ([].take (0 + 0) ++ ([] ++ [].drop (0 + 0 + ([] : List AV).length)))) = C.H := by
        apply List.ext_getElem?
        intro i
        rw [List.getElem?_set]
        split
        ·rename_i e; subst e
         rw [hid]; rfl
        ·rfl
       rw [hset] at hn
       exact Snd.mk hn ⟨C, rfl, rfl, Ext.refl C hC, hC, hv0⟩ (hrun _ _ hr)
    ·exact h.elim
  ·exact h.elim
 ·exact h.elim
include hf
theorem snd_append0 {t0 t1 : TypeId} {s x : Operand} {ct : Array TypeId} {ca : Array Operand} (ho : o.op = .call ⟨.builtin .append, ca, ct⟩) (hct : ct.toList = [t0, t1]) (hca : ca.toList = [s, x])
  (h : aopAppend Γ C.H t0 t1 (ev fr s) (thaw C.H (ev fr x)) next) : Snd P o a C next := by
 have hs := hf.ev s
 have hx := hf.evT x
 have hct : ct = #[t0, t1] := by apply Array.ext'; simpa using hct
 have hca : ca = #[s, x] := by apply Array.ext'; simpa using hca
 subst hct hca
 have run0 : ∀ r w', (Builtin.append_ #[t0, t1] o.type #[a.eval s, a.eval x]).run P C.w = .ok r w' → (execOp a.eval o).run P C.w = .ok (.value r) w' := by
  intro r w' hr
  simp only [execOp, ho, resolve, Sem.run_bind, Sem.run_pure, Result.andThen_ok, invoke, builtin, List.map_toArray, List.map_cons, List.map_nil, hr]
 unfold aopAppend at h
 split at h
 ·rename_i sh0 by0 e z0 hti
  obtain ⟨i, d, hi⟩ := Γ.info hti
  have hd := hi.slice rfl; subst hd
  split at h
  ·rename_i sh bytes kd zero hte
   obtain ⟨i', d', hi'⟩ := Γ.info hte
   split at h
   ·rename_i hck
    simp only [Bool.and_eq_true] at hck
    obtain ⟨hz1, hb1, hp⟩ := hck
    have hb1 := Nat.le_of_ble_eq_true hb1
    have hp : 0 < sh.size := Nat.le_of_ble_eq_true hp
    obtain ⟨zv, hz, hze⟩ := hi'.zeroOk (sh := sh) hz1
    have hze : avOfA zv = zero := hze
    have hra : RA C zv zero := hze ▸ RA_avOfA zv
    have hzs := hra.shOk hz1
    split at h
    ·rename_i sh1 by1 z1 ht1
     obtain ⟨i1, d1, hi1⟩ := Γ.info ht1
     have hd1 := hi1.str rfl; subst hd1
     split at h
     ·rename_i b hxe
      rw [hxe] at hx
      obtain ⟨bs, hb, rfl⟩ := hx.str
      split at h
      ·rename_i hleaf
       have hlay : Lay C.w C.G .leaf (bs.data.map fun c => .int .u8 c.toNat) (bs.data.toList.map fun c => .int .u8 c.toNat) := by
        refine ⟨by simp [Sh.size], fun q hq => ?_⟩
        simp only [List.length_map, Array.length_toList] at hq
        refine ⟨.int .u8 (bs.data[q]).toNat, by simp only [List.getElem_map, Array.getElem_toList]; exact .int _ _, rfl, fun j hj => ?_⟩
        simp only [Sh.size] at hj
        have : j = 0 := by omega
        subst this
        simp [Value.cells, Sh.size, Array.getElem?_eq_getElem hq]
       have hsrc : Src P C .leaf t1 (a.eval x) e zv (bs.data.toList.map fun c => .int .u8 c.toNat) (bs.data.map fun c => .int .u8 c.toNat) false := by
        rw [hb]
        refine ⟨.inl ⟨rfl, .inl hi1.und⟩, hlay, fun hh => (by cases hh), fun _ w => by simp [Builtin.lenOf], fun _ w' _ => ?_⟩
        simp only [Builtin.firstCells, List.length_map, Array.length_toList, Sem.run_pure]
        have e1 : (bs.extract 0 bs.data.size).data = bs.data := by
         rw [ByteArray.data_extract]; simp
        rw [e1]
       exact go_snd hC hi.und hi' hz hzs hb1 (by simp [Sh.size]) hsrc (fun hh => (by cases hh)) hs h o.type run0
      ·exact h.elim
     ·exact h.elim
    ·rename_i sh1 by1 k1 z1 ht1
     obtain ⟨i1, d1, hi1⟩ := Γ.info ht1
     have hd1 := hi1.int rfl; subst hd1
     split at h
     ·rename_i k n hxe
      rw [hxe] at hx
      have hx := hx.int
      split at h
      ·rename_i hzp
       obtain ⟨⟨hn0, hn1⟩, h⟩ := h
       have hnn : ((n.toNat * bytes : Nat) : Int) = n * bytes := by rw [Int.natCast_mul, Int.toNat_of_nonneg hn0]
       have hnb : n.toNat * bytes ≤ 2 ^ 46 := by omega
       have hn2 : n.toNat ≤ 2 ^ 46 := Nat.le_trans (Nat.le_mul_of_pos_right _ hb1) hnb
       have hsrc : Src P C sh t1 (a.eval x) e zv (List.replicate n.toNat zero) (Builtin.zeroCells zv.cells n.toNat) true :=
        ⟨.inr ⟨rfl, k1, hi1.und⟩, Lay.zeros (hra.pure hzp) hzs _, fun _ => ⟨k, n, hx, hn0, by omega, by simp, by simp⟩, fun hh => (by cases hh), fun hh => (by cases hh)⟩
       exact go_snd hC hi.und hi' hz hzs hb1 hp hsrc (fun _ => by simpa using hnb) hs h o.type run0
      ·exact h.elim
     ·exact h.elim
    ·rename_i sh1 by1 e1 z1 ht1
     obtain ⟨i1, d1, hi1⟩ := Γ.info ht1
     have hd1 := hi1.slice rfl; subst hd1
     obtain ⟨l, cells, ad, cap, h, hlay, hv, hcap, hfc⟩ := elems_snd (P := P) hC hx hp h
     have hsrc : Src P C sh t1 (a.eval x) e zv l cells false :=
      ⟨.inl ⟨rfl, .inr ⟨e1, hi1.und⟩⟩, hlay, fun hh => (by cases hh), fun _ w => by rw [hv]; rfl, fun _ w' hw => hfc w' hw⟩
     exact go_snd hC hi.und hi' hz hzs hb1 hp hsrc (fun hh => (by cases hh)) hs h o.type run0
    ·exact h.elim
   ·exact h.elim
  ·exact h.elim
 ·exact h.elim
theorem snd_call {f : Operand} {ct : Array TypeId} {ca : Array Operand} (ho : o.op = .call ⟨.value f, ca, ct⟩) (h : aop Γ fr (.call ⟨.value f, ca, ct⟩) C.H next) : Snd P o a C next := by
 simp only [aop] at h
 have hfe := hf.ev f
 split at h
 ·rename_i g caps hfe'
  rw [hfe'] at hfe
  obtain ⟨cv, hfv, hcsz, hcr⟩ := hfe
  have h := evArgsT_elim _ _ h
  split at h
  case h_2 => exact h.elim
  rename_i hnt
  rw [List.all_eq_true] at hnt
  obtain ⟨r, H', ⟨⟨fn, hfn, hbody, hname⟩, hc⟩, hn⟩ := h
  refine ⟨r, H', hn, fun K Q hK => ?_⟩
  have hrun : (execOp a.eval o).run P C.w = .ok (.enter g (ca.map a.eval ++ cv)) C.w := by
   have hbn : fn.body.isNone = false := by cases hb : fn.body <;> simp [hb] at hbody ⊢
   simp only [execOp, ho, resolve, hfv, Deferred.ofValue, Sem.run_bind, Sem.run_pure, Result.andThen_ok, invoke, Array.empty_append, callFunc, run_program, hfn, hname, hbn, Bool.false_eq_true, if_false]
  unfold Oper.wp
  rw [hrun, Oper.upon_enter]
  have hargs : ∀ (i : Nat) (hi : i < (List.map (fun x => thaw C.H (ev fr x)) ca.toList ++ caps).length), RA C ((ca.map a.eval ++ cv).getD i undef) (List.map (fun x => thaw C.H (ev fr x)) ca.toList ++ caps)[i] := by
   intro i hi
   simp only [List.length_append, List.length_map, Array.length_toList] at hi
   by_cases hlt : i < ca.size
   ·rw [List.getElem_append_left (by simpa using hlt)]
    simp only [List.getElem_map, Array.getElem_toList, Array.getD_eq_getD_getElem?]
    rw [Array.getElem?_append_left (by simpa using hlt), Array.getElem?_map, Array.getElem?_eq_getElem hlt]
    simp only [Option.map_some, Option.getD_some]
    refine (hf.evT _).RA fun vs hvs => ?_
    have := hnt (thaw C.H (ev fr ca[i])) (List.mem_map.2 ⟨_, by rw [Array.mem_toList_iff]; exact Array.getElem_mem hlt, rfl⟩)
    rw [hvs] at this
    simp [AV.noTup] at this
   ·rw [List.getElem_append_right (by simpa using hlt)]
    simp only [List.length_map, Array.length_toList, Array.getD_eq_getD_getElem?]
    rw [Array.getElem?_append_right (by simp; omega), Array.size_map, ← Array.getD_eq_getD_getElem?]
    have := hcr (i - ca.size) (by omega)
    generalize caps[i - ca.size] = q at this
    cases q <;> first | exact this | exact this.elim
  refine (hc C rfl hC (ca.map a.eval ++ cv) (by simp [hcsz]) hargs).mono fun e w' hh => ?_
  obtain ⟨v, C', rfl, rfl, hH, hE, hC', hr⟩ := hh
  exact hK v C' hH hE hC' hr
 ·exact h.elim
theorem snd_append {t0 t1 : TypeId} {s x : Operand} {ct : Array TypeId} {ca : Array Operand} (ho : o.op = .call ⟨.builtin .append, ca, ct⟩) (hct : ct.toList = [t0, t1]) (hca : ca.toList = [s, x])
  (h : aop Γ fr (.call ⟨.builtin .append, ca, ct⟩) C.H next) : Snd P o a C next := by
 simp only [aop, hct, hca] at h
 rcases h with h | h
 ·exact snd_append0 Γ hC hf ho hct hca h
 ·obtain ⟨r, H', ⟨id, off, len, kk, sh, es, l, rfl, he, hkk, hle, rfl, hn⟩, hy⟩ := snd_append0 Γ hC hf ho hct hca h
  exact ⟨_, _, hn, hy.frz he hkk hle⟩
end
end Go.Bv
