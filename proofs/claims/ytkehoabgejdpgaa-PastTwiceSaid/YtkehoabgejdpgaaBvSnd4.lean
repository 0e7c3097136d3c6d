/- Part of the lift: an abstract walk of the program's code, proved sound, and what it shows of this program. -/
import Derived.Test.YtkehoabgejdpgaaBvSnd3
namespace Go.Bv
open Go

/-- Cells that hold elements, one behind the other. -/
def Lay (w : World) (G : Nat → Prop) (sh : Sh) (cells : Array Value) (l : List AV) : Prop :=
  cells.size = l.length * sh.size ∧ ∀ (i : Nat) (h : i < l.length), ∃ v, RP w G v l[i] ∧ okSh v sh ∧ ∀ j, j < sh.size → cells[i * sh.size + j]? = v.cells[j]?

theorem Lay.mono {w w' : World} {G G' : Nat → Prop} (h : ∀ b, G b → G' b ∧ w'.heap[b]? = w.heap[b]?) {sh : Sh} {cells : Array Value} {l : List AV} (r : Lay w G sh cells l) : Lay w' G' sh cells l :=
  ⟨r.1, fun i hi => let ⟨v, hv, hs, hc⟩ := r.2 i hi; ⟨v, hv.mono h, hs, hc⟩⟩

theorem idx_split {s n q : Nat} (hs : 0 < s) (hq : q < n * s) : q / s < n ∧ q % s < s ∧ q = q / s * s + q % s := by
  refine ⟨Nat.div_lt_of_lt_mul (by rw [Nat.mul_comm]; exact hq), Nat.mod_lt _ hs, ?_⟩
  have := Nat.div_add_mod q s
  rw [Nat.mul_comm] at this
  omega

theorem idx_lt {s n i j : Nat} (hi : i < n) (hj : j < s) : i * s + j < n * s := by
  have h1 : (i + 1) * s ≤ n * s := Nat.mul_le_mul_right s hi
  have h2 : (i + 1) * s = i * s + s := by rw [Nat.add_mul, Nat.one_mul]
  omega

theorem Lay.one {w : World} {G : Nat → Prop} {sh : Sh} {cells : Array Value} {l : List AV} (h : Lay w G sh cells l) (hs : 0 < sh.size) {o : Nat} {x : Value} (hx : cells[o]? = some x) : x.oneCell' = true := by
  have hlt := (Array.getElem?_eq_some_iff.1 hx).1
  rw [h.1] at hlt
  obtain ⟨h1, h2, h3⟩ := idx_split hs hlt
  obtain ⟨v, _, hsh, hc⟩ := h.2 _ h1
  have := hc _ h2
  rw [← h3, hx] at this
  exact hsh.cell_one this.symm

theorem Lay.append {w : World} {G : Nat → Prop} {sh : Sh} {c1 c2 : Array Value} {l1 l2 : List AV} (h1 : Lay w G sh c1 l1) (h2 : Lay w G sh c2 l2) : Lay w G sh (c1 ++ c2) (l1 ++ l2) := by
  refine ⟨by simp [h1.1, h2.1, Nat.add_mul], fun i hi => ?_⟩
  by_cases hlt : i < l1.length
  · obtain ⟨v, hv, hs, hc⟩ := h1.2 i hlt
    refine ⟨v, by rw [List.getElem_append_left hlt]; exact hv, hs, fun j hj => ?_⟩
    rw [Array.getElem?_append_left (by rw [h1.1]; exact idx_lt hlt hj)]
    exact hc j hj
  · simp only [List.length_append] at hi
    obtain ⟨v, hv, hs, hc⟩ := h2.2 (i - l1.length) (by omega)
    refine ⟨v, by rw [List.getElem_append_right (by omega)]; exact hv, hs, fun j hj => ?_⟩
    have e : i * sh.size + j = c1.size + ((i - l1.length) * sh.size + j) := by
      have : i * sh.size = l1.length * sh.size + (i - l1.length) * sh.size := by rw [← Nat.add_mul]; congr 1; omega
      rw [h1.1]; omega
    rw [e, Array.getElem?_append_right (by omega), Nat.add_sub_cancel_left]
    exact hc j hj

theorem Lay.nil {w : World} {G : Nat → Prop} {sh : Sh} : Lay w G sh #[] [] := ⟨by simp, fun i hi => by simp at hi⟩

theorem zeroCells_get (z : Array Value) (n q : Nat) (h : q < n * z.size) : (Builtin.zeroCells z n)[q]? = z[q % z.size]? := by
  have hz : 0 < z.size := Nat.pos_of_ne_zero fun h0 => by simp [h0] at h
  have hm : q % z.size < z.size := Nat.mod_lt _ hz
  simp only [Builtin.zeroCells, Array.getElem?_map, Array.getElem?_range]
  rw [if_pos h]
  simp only [Option.map_some]
  rw [Array.getElem!_eq_getD, Array.getD_eq_getD_getElem?, Array.getElem?_eq_getElem hm]; rfl

theorem zeroCells_size (z : Array Value) (n : Nat) : (Builtin.zeroCells z n).size = n * z.size := by simp [Builtin.zeroCells]

theorem Lay.zeros {w : World} {G : Nat → Prop} {sh : Sh} {z : Value} {a : AV} (hz : RP w G z a) (hs : okSh z sh) (n : Nat) : Lay w G sh (Builtin.zeroCells z.cells n) (List.replicate n a) := by
  have hsz := hs.size
  refine ⟨by rw [zeroCells_size, hsz]; simp, fun i hi => ⟨z, by simpa using hz, hs, fun j hj => ?_⟩⟩
  simp at hi
  rw [zeroCells_get _ _ _ (by rw [hsz]; exact idx_lt hi hj), hsz, Nat.add_comm, Nat.add_mul_mod_self_right, Nat.mod_eq_of_lt hj]

theorem zeroCells_one {sh : Sh} {z : Value} (hs : okSh z sh) (n : Nat) {o : Nat} {x : Value} (hx : (Builtin.zeroCells z.cells n)[o]? = some x) : x.oneCell' = true := by
  have hlt := (Array.getElem?_eq_some_iff.1 hx).1
  rw [zeroCells_size] at hlt
  rw [zeroCells_get _ _ _ hlt] at hx
  exact hs.cell_one hx

theorem firstCells_zero {P : Program} {s : Nat} {ad : Option Addr} {c : Nat} (w : World) : (Builtin.firstCells s 0 (.slice ad 0 c)).run P w = .ok #[] w := by
  cases ad with
  | none => rfl
  | some ad => simp only [Builtin.firstCells, Nat.zero_mul]; rfl

theorem elemsOf_elim {H : List Blk} {sh : Sh} {a : AV} {k : List AV → Prop} (h : elemsOf H sh a k) :
    (a = .nils ∧ k []) ∨ (∃ l, a = .list sh l ∧ k l) ∨
      (∃ id off len kk es, a = .own id off len ∧ H[id]? = some (.row kk sh es) ∧ kk ≠ .box ∧ off + len ≤ es.length ∧ k ((es.drop off).take len)) := by
  unfold elemsOf at h
  split at h
  · exact .inl ⟨rfl, h⟩
  · split at h
    · rename_i hb
      have := Sh.beq_eq hb; subst this
      exact .inr (.inl ⟨_, rfl, h⟩)
    · exact h.elim
  · split at h
    · rename_i hid
      split at h
      · exact h.elim
      · rename_i hk
        split at h
        · rename_i hb
          have := Sh.beq_eq hb; subst this
          obtain ⟨h0, h⟩ := h
          exact .inr (.inr ⟨_, _, _, _, _, rfl, hid, fun e => hk e, h0, h⟩)
        · exact h.elim
    · exact h.elim
  · exact h.elim

/-- What a slice value holds, read in any world of the same heap. -/
theorem elems_snd {P : Program} {C : Ctx} (hC : HRep C) {v : Value} {a : AV} (hv : RT C v a) {sh : Sh} (hp : 0 < sh.size) {k : List AV → Prop} (h : elemsOf C.H sh a k) :
    ∃ l cells ad cap, k l ∧ Lay C.w C.G sh cells l ∧ v = .slice ad l.length cap ∧ l.length ≤ cap ∧
      ∀ w', w'.heap = C.w.heap → (Builtin.firstCells sh.size l.length v).run P w' = .ok cells w' := by
  rcases elemsOf_elim h with ⟨rfl, g⟩ | ⟨l, rfl, g⟩ | ⟨id, off, len, kk, es, rfl, hid, hk, hle, g⟩
  · have := hv.nils; subst this
    exact ⟨[], #[], none, 0, g, .nil, rfl, Nat.le_refl _, fun w' _ => rfl⟩
  · have hv : RP C.w C.G v (.list sh l) := hv
    cases hv with
    | list0 sh ad c => exact ⟨[], #[], ad, c, g, .nil, rfl, Nat.zero_le _, fun w' _ => firstCells_zero w'⟩
    | list sh b o c l vs hc hb hr hs hcell =>
      let cells : Array Value := Array.ofFn (n := l.length * sh.size) fun q => ((vs (q.val / sh.size)).cells.getD (q.val % sh.size) undef)
      have hsz : cells.size = l.length * sh.size := by simp [cells]
      have hget : ∀ i j, i < l.length → j < sh.size → cells[i * sh.size + j]? = (vs i).cells[j]? := by
        intro i j hi hj
        have hlt := idx_lt hi hj
        rw [Array.getElem?_eq_getElem (by rw [hsz]; exact hlt)]
        simp only [cells, Array.getElem_ofFn]
        have e1 : (i * sh.size + j) / sh.size = i := by
          rw [Nat.add_comm, Nat.add_mul_div_right _ _ hp, Nat.div_eq_of_lt hj, Nat.zero_add]
        have e2 : (i * sh.size + j) % sh.size = j := by
          rw [Nat.add_comm, Nat.add_mul_mod_self_right, Nat.mod_eq_of_lt hj]
        rw [e1, e2, Array.getD_eq_getD_getElem?, Array.getElem?_eq_getElem (by rw [(hs i hi).size]; exact hj)]
        rfl
      refine ⟨l, cells, _, c, g, ⟨hsz, fun i hi => ⟨vs i, hr i hi, hs i hi, fun j hj => hget i j hi hj⟩⟩, rfl, hc, fun w' hw => ?_⟩
      simp only [Builtin.firstCells]
      rw [← hsz]
      refine run_loadCells_rep fun q hq => ?_
      rw [hsz] at hq
      obtain ⟨h1, h2, h3⟩ := idx_split hp hq
      rw [h3, hget _ _ h1 h2, ← hcell _ _ h1 h2, ← Nat.add_assoc]
      simp only [World.cell?, hw]
  · obtain ⟨_, _, hv, _⟩ := hv
    have hlen : ((es.drop off).take len).length = len := by simp; omega
    by_cases hl : (Blk.row kk sh es).live
    · obtain ⟨cap, hv, hcap, hes, c, T, fz, hc, hcs⟩ := (hv kk sh es hid).2 hl
      obtain ⟨c', T', fz', hc', _, hle', _, hel⟩ := hC.row id kk sh es hid hl
      rw [hc] at hc'; cases hc'
      have hcs2 : (off + len) * sh.size ≤ c.size := Nat.le_trans (Nat.mul_le_mul_right _ hle) hle'
      have hmul : (off + len) * sh.size = off * sh.size + len * sh.size := Nat.add_mul _ _ _
      have hsz : (c.extract (off * sh.size) ((off + len) * sh.size)).size = len * sh.size := by simp; omega
      refine ⟨_, c.extract (off * sh.size) ((off + len) * sh.size), _, cap, g, ⟨by rw [hlen, hsz], fun i hi => ?_⟩, by rw [hlen]; exact hv, by rw [hlen]; exact hcap, fun w' hw => ?_⟩
      · rw [hlen] at hi
        obtain ⟨u, _, hp', hs, hcell⟩ := hel (off + i) (by omega)
        refine ⟨u, by simpa using hp' hk, hs, fun j hj => ?_⟩
        have := idx_lt hi hj
        rw [Array.getElem?_extract, if_pos (by omega), ← hcell j hj, Nat.add_mul, Nat.add_assoc]
      · rw [hlen, hv]
        simp only [Builtin.firstCells]
        rw [← hsz]
        refine run_loadCells_rep fun q hq => ?_
        rw [hsz] at hq
        rw [Array.getElem?_extract, if_pos (by omega)]
        simp only [World.cell?, hw, hc, Option.isSome_none, Bool.false_eq_true, if_false]
    · obtain ⟨ad, hv1, h0⟩ := (hv kk sh es hid).1 hl
      have e : (es.drop off).take len = [] := by rw [h0]; simp
      rw [e] at g
      exact ⟨[], #[], ad, 0, g, .nil, hv1, Nat.le_refl _, fun w' _ => by rw [hv1]; exact firstCells_zero w'⟩

/-- A new block whose first cells are laid so is a row. -/
theorem Lay.row {C : Ctx} {b : Nat} {k : RK} {sh : Sh} {es : List AV} {cells rest : Array Value} {T : TypeId} {fz : Nat × Nat} (hl : Lay C.w C.G sh cells es) (hp : 0 < sh.size)
    (hb : C.w.heap[b]? = some (.cells (cells ++ rest) T fz)) (hfz : fz.1 = fz.2 ∨ (cells ++ rest).size ≤ fz.1) (hr : ∀ (o : Nat) (x : Value), rest[o]? = some x → x.oneCell' = true) : RowAt C b k sh es := by
  refine ⟨_, T, fz, hb, hfz, by simp [hl.1], fun o x hx => ?_, fun i hi => ?_⟩
  · rw [Array.getElem?_append] at hx
    split at hx
    · exact hl.one hp hx
    · exact hr _ x hx
  · obtain ⟨v, hv, hs, hc⟩ := hl.2 i hi
    refine ⟨v, hv.RA, fun _ => hv, hs, fun j hj => ?_⟩
    rw [Array.getElem?_append_left (by rw [hl.1]; exact idx_lt hi hj)]
    exact hc j hj

/-- New memory that is not owned. -/
theorem grow_ext {C : Ctx} (hC : HRep C) (w' : World) (hpre : ∀ b, b < C.w.heap.size → w'.heap[b]? = C.w.heap[b]?) (hsz : C.w.heap.size ≤ w'.heap.size)
    (hos : w'.os = C.w.os) (ht : w'.tape = C.w.tape) (ho : w'.output = C.w.output) : Ext C { C with w := w' } where
  F := rfl
  os := hos
  tape := ht
  output := ho
  size := hsz
  len := Nat.le_refl _
  beta := fun _ _ => rfl
  keep := fun b hb _ => hpre b hb
  fresh := fun id k hid hk _ => by
    have := (List.getElem?_eq_some_iff.1 hk).1
    dsimp only at this
    omega
  rows := fun id k sh es _ he => by
    refine ⟨es, he, rfl, fun hl => ?_⟩
    have hlt := hC.lt he hl
    obtain ⟨c, T, fr, hc, _⟩ := hC.row id k sh es he hl
    exact ⟨c, T, fr, c, T, fr, hc, by rw [← hc]; exact hpre _ hlt, rfl⟩
  maps := fun id es _ he => ⟨es, he⟩
  ros := fun id sh es _ he => .inl he

theorem grow_hrep {C : Ctx} (hC : HRep C) {w' : World} (hpre : ∀ b, b < C.w.heap.size → w'.heap[b]? = C.w.heap[b]?) (hsz : C.w.heap.size ≤ w'.heap.size)
    (hos : w'.os = C.w.os) (ht : w'.tape = C.w.tape) (ho : w'.output = C.w.output) : HRep { C with w := w' } := by
  have hE := grow_ext hC w' hpre hsz hos ht ho
  refine ⟨hC.inj, hC.notF, fun b hb => Nat.lt_of_lt_of_le (hC.Flt b hb) hsz, hC.sz, fun id k sh es he hl => ?_, fun id es he => ?_⟩
  · have hr : RowAt C (C.β id) k sh es := hC.row id k sh es he hl
    exact hr.ext hE (hpre _ (hC.lt he hl))
  · have hr : MapAt C (C.β id) es := hC.map id es he
    exact hr.ext hE (hpre _ (hC.lt he trivial))

theorem push_pre (w : World) (o : Obj) (b : Nat) (hb : b < w.heap.size) : (w.alloc o).heap[b]? = w.heap[b]? := by
  simp only [World.alloc, Array.getElem?_push]; rw [if_neg (by omega)]

end Go.Bv
