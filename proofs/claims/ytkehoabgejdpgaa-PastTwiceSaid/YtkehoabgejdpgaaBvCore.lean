/- Part of the lift: an abstract walk of the program's code, proved sound, and what it shows of this program. -/
import Derived.Calls
import Derived.Below
import Derived.Orders
namespace Go.Bv
open Go

/-- The shape of a variable: one cell, or a struct (array) of n cells. -/
inductive Sh where
  | leaf
  | agg (n : Nat)
  deriving DecidableEq
def Sh.size : Sh → Nat
  | .leaf => 1
  | .agg n => n

/-- Abstract values. -/
inductive AV where
  | bool (b : Bool)
  | int (k : IntKind) (n : Int)
  | str (s : List UInt8)
  | nils
  | nilfn
  | list (sh : Sh) (l : List AV)
  | at (sh : Sh) (x : AV) (o : Nat)
  | own (id off len : Nat)
  | ptr (id i o : Nat)
  | map (id : Nat)
  | fn (f : FuncId) (caps : List AV)
  | agg (cs : List AV)
  | tup (vs : List AV)
  | undef

instance : Inhabited AV := ⟨.undef⟩

def okSh (v : Value) : Sh → Prop
  | .leaf => v.oneCell' = true
  | .agg n => ∃ cs : Array Value, v = .agg cs ∧ cs.size = n ∧ ∀ (i : Nat) (x : Value), cs[i]? = some x → x.oneCell' = true

theorem cells_one {v : Value} (h : v.oneCell' = true) : v.cells = #[v] := by
  cases v <;> simp_all [Value.oneCell', Value.cells]

theorem okSh.size {v : Value} {sh : Sh} (h : okSh v sh) : v.cells.size = sh.size := by
  cases sh with
  | leaf => simp only [okSh] at h; simp [cells_one h, Sh.size]
  | agg n => obtain ⟨cs, rfl, rfl, _⟩ := h; simp [Value.cells, Sh.size]

theorem okSh.cell_one {v : Value} {sh : Sh} (h : okSh v sh) {j : Nat} {x : Value} (hx : v.cells[j]? = some x) : x.oneCell' = true := by
  cases sh with
  | leaf =>
    simp only [okSh] at h; rw [cells_one h] at hx
    cases j <;> simp at hx; subst hx; exact h
  | agg n => obtain ⟨cs, rfl, rfl, hc⟩ := h; exact hc j x hx

/-- What a value reads as in memory that nobody will write any more (the blocks of G). -/
inductive RP (w : World) (G : Nat → Prop) : Value → AV → Prop
  | bool (b : Bool) : RP w G (.bool b) (.bool b)
  | int (k : IntKind) (n : Int) : RP w G (.int k n) (.int k n)
  | str (s : ByteArray) : RP w G (.string s) (.str s.data.toList)
  | nils : RP w G (.slice none 0 0) .nils
  | nilfn : RP w G .nilFunc .nilfn
  | list0 (sh : Sh) (a : Option Addr) (c : Nat) : RP w G (.slice a 0 c) (.list sh [])
  | list (sh : Sh) (b o c : Nat) (l : List AV) (vs : Nat → Value) : l.length ≤ c → G b →
      (∀ (i : Nat) (h : i < l.length), RP w G (vs i) l[i]) → (∀ i, i < l.length → okSh (vs i) sh) →
      (∀ i j, i < l.length → j < sh.size → w.cell? ⟨b, o + i * sh.size + j, none⟩ = (vs i).cells[j]?) →
      RP w G (.slice (some ⟨b, o, none⟩) l.length c) (.list sh l)
  | agg (vs : Array Value) (cs : List AV) : vs.size = cs.length →
      (∀ (i : Nat) (h : i < cs.length), RP w G (vs.getD i undef) cs[i]) →
      (∀ (i : Nat) (x : Value), vs[i]? = some x → x.oneCell' = true) → RP w G (.agg vs) (.agg cs)
  | at (sh : Sh) (b o k : Nat) (v : Value) (x : AV) : G b → RP w G v x → okSh v sh →
      (∀ j, j < sh.size → w.cell? ⟨b, o + j, none⟩ = v.cells[j]?) → RP w G (.pointer (some ⟨b, o + k, none⟩)) (.at sh x k)

theorem cell?_congr {w w' : World} {b o : Nat} (h : w'.heap[b]? = w.heap[b]?) : w'.cell? ⟨b, o, none⟩ = w.cell? ⟨b, o, none⟩ := by
  simp only [World.cell?, h]

theorem RP.mono {w w' : World} {G G' : Nat → Prop} (h : ∀ b, G b → G' b ∧ w'.heap[b]? = w.heap[b]?) {v : Value} {a : AV} (r : RP w G v a) : RP w' G' v a := by
  induction r with
  | bool b => exact .bool b
  | int k n => exact .int k n
  | str s => exact .str s
  | nils => exact .nils
  | nilfn => exact .nilfn
  | list0 sh a c => exact .list0 sh a c
  | list sh b o c l vs hc hb _ hs hcell ih =>
    exact .list sh b o c l vs hc (h b hb).1 ih hs (fun i j hi hj => by rw [cell?_congr (h b hb).2]; exact hcell i j hi hj)
  | agg vs cs hsz _ ho ih => exact .agg vs cs hsz ih ho
  | «at» sh b o k v x hb _ hs hcell ih =>
    exact .at sh b o k v x (h b hb).1 ih hs (fun j hj => by rw [cell?_congr (h b hb).2]; exact hcell j hj)

/-- The kinds of rows: one variable; the elements of a slice; the same, and an empty one may have no memory. -/
inductive RK where
  | box
  | row
  | vrow

/-- An owned block: a row of elements, or a map. -/
inductive Blk where
  | dead
  | row (k : RK) (sh : Sh) (es : List AV)
  | map (es : List (AV × AV))
  | ro (sh : Sh) (es : List AV)

structure Ctx where
  w : World
  F : Nat → Prop
  β : Nat → Nat
  H : List Blk

def Blk.live : Blk → Prop
  | .dead => False
  | .ro _ _ => False
  | .row .vrow _ es => es ≠ []
  | _ => True

theorem Blk.live_row {k : RK} {sh : Sh} {es es' : List AV} (hl : es.length = es'.length) (h : (Blk.row k sh es).live) : (Blk.row k sh es').live := by
  cases k <;> simp only [Blk.live] at h ⊢
  intro e; subst e; simp at hl; exact h hl

theorem Blk.not_live_row {k : RK} {sh : Sh} {es : List AV} (h : ¬ (Blk.row k sh es).live) : k = .vrow ∧ es = [] := by
  cases k <;> simp [Blk.live] at h ⊢
  exact h

def Ctx.owned (C : Ctx) (b : Nat) : Prop := ∃ id k, C.H[id]? = some k ∧ k.live ∧ C.β id = b
def Ctx.G (C : Ctx) (b : Nat) : Prop := b < C.w.heap.size ∧ ¬ C.F b ∧ ¬ C.owned b

def RL (C : Ctx) (v : Value) : AV → Prop
  | .own id off len => v.oneCell' = true ∧ id < C.H.length ∧ (∀ k sh es, C.H[id]? = some (.row k sh es) →
      (¬ (Blk.row k sh es).live → ∃ a, v = .slice a 0 0 ∧ len = 0) ∧
      ((Blk.row k sh es).live → ∃ cap, v = .slice (some ⟨C.β id, off * sh.size, none⟩) len cap ∧ len ≤ cap ∧ es.length ≤ off + cap ∧
        ∃ c T fr, C.w.heap[C.β id]? = some (.cells c T fr) ∧ (off + cap) * sh.size ≤ c.size)) ∧
      (∀ k sh es, C.H[id]? = some (.row k sh es) → off + len ≤ es.length) ∧
      (∀ sh es, C.H[id]? = some (.ro sh es) → off + len ≤ es.length ∧ RP C.w C.G v (.list sh ((es.drop off).take len)))
  | .ptr id i o => v.oneCell' = true ∧ id < C.H.length ∧ ∀ k sh es, C.H[id]? = some (.row k sh es) → v = .pointer (some ⟨C.β id, i * sh.size + o, none⟩)
  | .map id => v.oneCell' = true ∧ id < C.H.length ∧ ∀ es, C.H[id]? = some (.map es) → v = .map (some (C.β id))
  | .undef => True
  | .fn _ _ => False
  | .tup _ => False
  | .agg _ => False
  | a => RP C.w C.G v a

def R1 (C : Ctx) (v : Value) : AV → Prop
  | .fn f caps => ∃ cv : Array Value, v = .func (.func f) #[] cv ∧ cv.size = caps.length ∧ ∀ (i : Nat) (h : i < caps.length), RL C (cv.getD i undef) caps[i]
  | a => RL C v a

def RA (C : Ctx) (v : Value) : AV → Prop
  | .agg cs => ∃ vs : Array Value, v = .agg vs ∧ vs.size = cs.length ∧ (∀ (i : Nat) (h : i < cs.length), R1 C (vs.getD i undef) cs[i]) ∧
      ∀ (i : Nat) (x : Value), vs[i]? = some x → x.oneCell' = true
  | a => R1 C v a

def RT (C : Ctx) (v : Value) : AV → Prop
  | .tup as => ∃ vs : Array Value, v = .tuple vs ∧ vs.size = as.length ∧ ∀ (i : Nat) (h : i < as.length), RA C (vs.getD i undef) as[i]
  | a => RA C v a

structure HRep (C : Ctx) : Prop where
  inj : ∀ (i j : Nat) (k m : Blk), C.H[i]? = some k → C.H[j]? = some m → k.live → m.live → C.β i = C.β j → i = j
  notF : ∀ (i : Nat) (k : Blk), C.H[i]? = some k → k.live → ¬ C.F (C.β i)
  Flt : ∀ b, C.F b → b < C.w.heap.size
  sz : ∀ (id : Nat) (k : RK) (sh : Sh) (es : List AV), C.H[id]? = some (.row k sh es) → 0 < sh.size
  row : ∀ (id : Nat) (k : RK) (sh : Sh) (es : List AV), C.H[id]? = some (.row k sh es) → (Blk.row k sh es).live →
    ∃ c T fr, C.w.heap[C.β id]? = some (.cells c T fr) ∧ (fr.1 = fr.2 ∨ c.size ≤ fr.1) ∧ es.length * sh.size ≤ c.size ∧
      (∀ (o : Nat) (x : Value), c[o]? = some x → x.oneCell' = true) ∧
      ∀ (i : Nat) (h : i < es.length), ∃ v, RA C v es[i] ∧ (k ≠ .box → RP C.w C.G v es[i]) ∧ okSh v sh ∧ ∀ j, j < sh.size → c[i * sh.size + j]? = v.cells[j]?
  map : ∀ (id : Nat) (es : List (AV × AV)), C.H[id]? = some (.map es) →
    ∃ (me : Array MapEntry) (clock : Nat), C.w.heap[C.β id]? = some (.map me clock) ∧ me.size = es.length ∧
      ∀ (i : Nat) (h : i < es.length), ∃ m, me[i]? = some m ∧ RP C.w C.G m.key es[i].1 ∧ RP C.w C.G m.val es[i].2

/-- What a row that nobody writes any more holds. -/
def RoAt (w : World) (G : Nat → Prop) (b : Nat) (sh : Sh) (es : List AV) : Prop :=
  G b ∧ ∀ (i : Nat) (h : i < es.length), ∃ v, RP w G v es[i] ∧ okSh v sh ∧ ∀ j, j < sh.size → w.cell? ⟨b, i * sh.size + j, none⟩ = v.cells[j]?

theorem RoAt.mono {w w' : World} {G G' : Nat → Prop} (h : ∀ b, G b → G' b ∧ w'.heap[b]? = w.heap[b]?) {b : Nat} {sh : Sh} {es : List AV} (r : RoAt w G b sh es) : RoAt w' G' b sh es :=
  ⟨(h b r.1).1, fun i hi => by
    obtain ⟨v, hv, hs, hc⟩ := r.2 i hi
    exact ⟨v, hv.mono h, hs, fun j hj => by rw [cell?_congr (h b r.1).2]; exact hc j hj⟩⟩

theorem RoAt.list {w : World} {G : Nat → Prop} {b : Nat} {sh : Sh} {es : List AV} (r : RoAt w G b sh es) {off len cap : Nat} (hle : off + len ≤ es.length) (hcap : len ≤ cap) :
    RP w G (.slice (some ⟨b, off * sh.size, none⟩) len cap) (.list sh ((es.drop off).take len)) := by
  have hlen : ((es.drop off).take len).length = len := by simp; omega
  have hx : ∀ i, ∃ v, ∀ (h : i < ((es.drop off).take len).length), RP w G v ((es.drop off).take len)[i] ∧ okSh v sh ∧ ∀ j, j < sh.size → w.cell? ⟨b, (off + i) * sh.size + j, none⟩ = v.cells[j]? := fun i => by
    by_cases h : i < ((es.drop off).take len).length
    · obtain ⟨v, hv, hs, hc⟩ := r.2 (off + i) (by omega)
      refine ⟨v, fun _ => ⟨?_, hs, hc⟩⟩
      simpa using hv
    · exact ⟨undef, fun h' => absurd h' h⟩
  have := RP.list (w := w) (G := G) sh b (off * sh.size) cap ((es.drop off).take len) (fun i => Classical.choose (hx i)) (by omega) r.1
    (fun i hi => (Classical.choose_spec (hx i) hi).1) (fun i hi => (Classical.choose_spec (hx i) hi).2.1)
    (fun i j hi hj => by rw [← (Classical.choose_spec (hx i) hi).2.2 j hj, Nat.add_mul])
  rwa [hlen] at this

/-- From C to C': nothing that is not owned has turned. -/
structure Ext (C C' : Ctx) : Prop where
  F : C'.F = C.F
  os : C'.w.os = C.w.os
  tape : C'.w.tape = C.w.tape
  output : C'.w.output = C.w.output
  size : C.w.heap.size ≤ C'.w.heap.size
  len : C.H.length ≤ C'.H.length
  beta : ∀ id, id < C.H.length → C'.β id = C.β id
  keep : ∀ b, b < C.w.heap.size → ¬ C.owned b → C'.w.heap[b]? = C.w.heap[b]?
  fresh : ∀ (id : Nat) (k : Blk), C.H.length ≤ id → C'.H[id]? = some k → k.live → C.w.heap.size ≤ C'.β id ∨ C.owned (C'.β id)
  rows : ∀ (id : Nat) (k : RK) (sh : Sh) (es : List AV), id < C.H.length → C'.H[id]? = some (.row k sh es) →
    ∃ es0, C.H[id]? = some (.row k sh es0) ∧ es0.length = es.length ∧
      ((Blk.row k sh es).live → ∃ c T fr c' T' fr', C.w.heap[C.β id]? = some (.cells c T fr) ∧ C'.w.heap[C.β id]? = some (.cells c' T' fr') ∧ c'.size = c.size)
  maps : ∀ (id : Nat) (es : List (AV × AV)), id < C.H.length → C'.H[id]? = some (.map es) → ∃ es0, C.H[id]? = some (.map es0)
  ros : ∀ (id : Nat) (sh : Sh) (es : List AV), id < C.H.length → C'.H[id]? = some (.ro sh es) → C.H[id]? = some (.ro sh es) ∨
    ∃ k es0, C.H[id]? = some (.row k sh es0) ∧ es0.length = es.length ∧ ((Blk.row k sh es0).live → RoAt C'.w C'.G (C.β id) sh es)

theorem Ext.live {C C' : Ctx} (h : Ext C C') {id : Nat} {k : Blk} (hid : id < C.H.length) (hk : C'.H[id]? = some k) (hl : k.live) : ∃ k0, C.H[id]? = some k0 ∧ k0.live := by
  cases k with
  | dead => simp [Blk.live] at hl
  | ro sh es => simp [Blk.live] at hl
  | row p sh es => obtain ⟨es0, h0, hlen, _⟩ := h.rows id p sh es hid hk; exact ⟨_, h0, Blk.live_row hlen.symm hl⟩
  | map es => obtain ⟨es0, h0⟩ := h.maps id es hid hk; exact ⟨_, h0, trivial⟩

theorem Ext.owned {C C' : Ctx} (h : Ext C C') {b : Nat} (ho : C'.owned b) : C.owned b ∨ C.w.heap.size ≤ b := by
  obtain ⟨id, k, hk, hl, rfl⟩ := ho
  rcases Nat.lt_or_ge id C.H.length with hid | hid
  · obtain ⟨k0, h0, hl0⟩ := h.live hid hk hl
    exact .inl ⟨id, k0, h0, hl0, (h.beta id hid).symm⟩
  · exact (h.fresh id k hid hk hl).symm

theorem Ext.G {C C' : Ctx} (h : Ext C C') {b : Nat} (hb : C.G b) : C'.G b ∧ C'.w.heap[b]? = C.w.heap[b]? := by
  obtain ⟨h1, h2, h3⟩ := hb
  refine ⟨⟨Nat.lt_of_lt_of_le h1 h.size, by rw [h.F]; exact h2, fun ho => ?_⟩, h.keep b h1 h3⟩
  rcases h.owned ho with h' | h'
  · exact h3 h'
  · omega

theorem Ext.RP {C C' : Ctx} (h : Ext C C') {v : Value} {a : AV} (r : RP C.w C.G v a) : RP C'.w C'.G v a := r.mono fun _ hb => h.G hb

theorem Ext.RL {C C' : Ctx} (h : Ext C C') {v : Value} {a : AV} (r : RL C v a) : RL C' v a := by
  cases a <;> simp only [Bv.RL] at r ⊢ <;> first | exact h.RP r | skip
  · obtain ⟨h3, h1, h2, h4, h5⟩ := r
    refine ⟨h3, Nat.lt_of_lt_of_le h1 h.len, fun p sh es he => ?_, fun p sh es he => ?_, fun sh es he => ?_⟩
    rotate_left
    · obtain ⟨es0, h0, hlen, hblk⟩ := h.rows _ p sh es h1 he
      have := h4 p sh es0 h0
      omega
    · rcases h.ros _ sh es h1 he with h0 | ⟨k, es0, h0, hlen, hr⟩
      · exact ⟨(h5 sh es h0).1, h.RP (h5 sh es h0).2⟩
      · have hb := h4 k sh es0 h0
        refine ⟨by omega, ?_⟩
        obtain ⟨hn, hy⟩ := h2 k sh es0 h0
        by_cases hl : (Blk.row k sh es0).live
        · obtain ⟨cap, rfl, hcap, _⟩ := hy hl
          exact (hr hl).list (by omega) hcap
        · obtain ⟨a, rfl, h00⟩ := hn hl
          subst h00
          rw [List.take_zero]
          exact .list0 sh a 0
    obtain ⟨es0, h0, hlen, hblk⟩ := h.rows _ p sh es h1 he
    obtain ⟨hn, hy⟩ := h2 p sh es0 h0
    refine ⟨fun hd => hn fun hl => hd (Blk.live_row hlen hl), fun hl => ?_⟩
    obtain ⟨cap, hv, hl', hes, c1, T1, fr1, hc1, hle⟩ := hy (Blk.live_row hlen.symm hl)
    obtain ⟨c, T, fr, c', T', fr', hc, hc', hsz⟩ := hblk hl
    rw [h.beta _ h1]
    rw [hc] at hc1
    cases hc1
    exact ⟨cap, hv, hl', by omega, c', T', fr', hc', by omega⟩
  · obtain ⟨h3, h1, h2⟩ := r
    refine ⟨h3, Nat.lt_of_lt_of_le h1 h.len, fun p sh es he => ?_⟩
    obtain ⟨es0, h0, _⟩ := h.rows _ p sh es h1 he
    rw [h.beta _ h1]
    exact h2 p sh es0 h0
  · obtain ⟨h3, h1, h2⟩ := r
    refine ⟨h3, Nat.lt_of_lt_of_le h1 h.len, fun es he => ?_⟩
    obtain ⟨es0, h0⟩ := h.maps _ es h1 he
    rw [h.beta _ h1]
    exact h2 es0 h0

theorem Ext.R1 {C C' : Ctx} (h : Ext C C') {v : Value} {a : AV} (r : R1 C v a) : R1 C' v a := by
  cases a with
  | fn f caps =>
    obtain ⟨cv, hv, hsz, hc⟩ := r
    exact ⟨cv, hv, hsz, fun i hi => h.RL (hc i hi)⟩
  | _ => simp only [Bv.R1] at r ⊢; exact h.RL r

theorem Ext.RA {C C' : Ctx} (h : Ext C C') {v : Value} {a : AV} (r : RA C v a) : RA C' v a := by
  cases a with
  | agg cs =>
    obtain ⟨cv, hv, hsz, hc, ho⟩ := r
    exact ⟨cv, hv, hsz, fun i hi => h.R1 (hc i hi), ho⟩
  | _ => simp only [Bv.RA] at r ⊢; exact h.R1 r

theorem Ext.RT {C C' : Ctx} (h : Ext C C') {v : Value} {a : AV} (r : RT C v a) : RT C' v a := by
  cases a with
  | tup as =>
    obtain ⟨cv, hv, hsz, hc⟩ := r
    exact ⟨cv, hv, hsz, fun i hi => h.RA (hc i hi)⟩
  | _ => simp only [Bv.RT] at r ⊢; exact h.RA r

theorem Ext.refl (C : Ctx) (hC : HRep C) : Ext C C where
  F := rfl
  os := rfl
  tape := rfl
  output := rfl
  size := Nat.le_refl _
  len := Nat.le_refl _
  beta := fun _ _ => rfl
  keep := fun _ _ _ => rfl
  fresh := fun id k hid hk _ => by
    have := (List.getElem?_eq_some_iff.1 hk).1
    omega
  rows := fun id p sh es _ he => by
    refine ⟨es, he, rfl, fun hl => ?_⟩
    obtain ⟨c, T, fr, hc, _⟩ := hC.row id p sh es he hl
    exact ⟨c, T, fr, c, T, fr, hc, hc, rfl⟩
  maps := fun id es _ he => ⟨es, he⟩
  ros := fun id sh es _ he => .inl he

theorem Ext.trans {A B C : Ctx} (h : Ext A B) (k : Ext B C) : Ext A C where
  F := k.F.trans h.F
  os := k.os.trans h.os
  tape := k.tape.trans h.tape
  output := k.output.trans h.output
  size := Nat.le_trans h.size k.size
  len := Nat.le_trans h.len k.len
  beta := fun id hid => (k.beta id (Nat.lt_of_lt_of_le hid h.len)).trans (h.beta id hid)
  keep := fun b hb ho => by
    have hb' : b < B.w.heap.size := Nat.lt_of_lt_of_le hb h.size
    rw [k.keep b hb' fun ho' => (h.owned ho').elim ho (by omega), h.keep b hb ho]
  fresh := fun id m hid hm hl => by
    rcases Nat.lt_or_ge id B.H.length with hB | hB
    · obtain ⟨m0, h0, hl0⟩ := k.live hB hm hl
      rw [k.beta id hB]
      exact h.fresh id m0 hid h0 hl0
    · rcases k.fresh id m hB hm hl with h1 | h1
      · exact .inl (Nat.le_trans h.size h1)
      · exact (h.owned h1).symm
  rows := fun id p sh es hid he => by
    have hB : id < B.H.length := Nat.lt_of_lt_of_le hid h.len
    obtain ⟨es1, h1, hl1, hb1⟩ := k.rows id p sh es hB he
    obtain ⟨es0, h0, hl0, hb0⟩ := h.rows id p sh es1 hid h1
    refine ⟨es0, h0, by omega, fun hl => ?_⟩
    obtain ⟨c1, T1, fr1, c2, T2, fr2, hc1, hc2, hs2⟩ := hb1 hl
    obtain ⟨c0, T0, fr0, c1', T1', fr1', hc0, hc1', hs1⟩ := hb0 (Blk.live_row hl1.symm hl)
    rw [h.beta id hid] at hc1 hc2
    rw [hc1'] at hc1
    cases hc1
    exact ⟨c0, T0, fr0, c2, T2, fr2, hc0, hc2, by omega⟩
  maps := fun id es hid he => by
    obtain ⟨es1, h1⟩ := k.maps id es (Nat.lt_of_lt_of_le hid h.len) he
    exact h.maps id es1 hid h1
  ros := fun id sh es hid he => by
    have hB : id < B.H.length := Nat.lt_of_lt_of_le hid h.len
    rcases k.ros id sh es hB he with h1 | ⟨kk, es1, h1, hl1, hr⟩
    · rcases h.ros id sh es hid h1 with h0 | ⟨kk, es0, h0, hl0, hr⟩
      · exact .inl h0
      · exact .inr ⟨kk, es0, h0, hl0, fun hl => (hr hl).mono fun b hb => k.G hb⟩
    · obtain ⟨es0, h0, hl0, _⟩ := h.rows id kk sh es1 hid h1
      refine .inr ⟨kk, es0, h0, by omega, fun hl => ?_⟩
      rw [← h.beta id hid]
      exact hr (Blk.live_row hl0 hl)

theorem RP.RA {C : Ctx} {v : Value} {a : AV} (r : RP C.w C.G v a) : RA C v a := by
  cases r with
  | agg vs cs hsz hr ho =>
    refine ⟨vs, rfl, hsz, fun i hi => ?_, ho⟩
    have h1 := hr i hi
    have hlt : i < vs.size := by omega
    have h2 := ho i vs[i] (Array.getElem?_eq_getElem hlt)
    rw [Array.getD_eq_getD_getElem?, Array.getElem?_eq_getElem hlt, Option.getD_some] at h1 ⊢
    generalize vs[i] = x at *
    generalize cs[i] = y at *
    cases h1 <;> first | (simp [Value.oneCell'] at h2; done) | (simp only [R1, RL]; constructor <;> assumption) | (simp only [R1, RL]; constructor)
  | _ => simp only [Bv.RA, R1, RL]; first | (constructor <;> assumption) | constructor

-- a nil slice reads as an empty list too
mutual
inductive LeA : AV → AV → Prop
  | refl (a : AV) : LeA a a
  | nils (sh : Sh) : LeA .nils (.list sh [])
  | agg {l l' : List AV} (h : LeAs l l') : LeA (.agg l) (.agg l')
  | list (sh : Sh) {l l' : List AV} (h : LeAs l l') : LeA (.list sh l) (.list sh l')
  | tup {l l' : List AV} (h : LeAs l l') : LeA (.tup l) (.tup l')
inductive LeAs : List AV → List AV → Prop
  | nil : LeAs [] []
  | cons {a b : AV} {l l' : List AV} (h : LeA a b) (hs : LeAs l l') : LeAs (a :: l) (b :: l')
end

theorem LeAs.refl : ∀ l : List AV, LeAs l l
  | [] => .nil
  | a :: l => .cons (.refl a) (LeAs.refl l)
theorem LeAs.length : ∀ {l l' : List AV}, LeAs l l' → l'.length = l.length
  | _, _, .nil => rfl
  | _, _, .cons _ hs => by simp [hs.length]
theorem LeAs.get : ∀ {l l' : List AV}, LeAs l l' → ∀ (i : Nat) (h : i < l.length) (h' : i < l'.length), LeA l[i] l'[i]
  | _, _, .nil, i, h, _ => by simp at h
  | _, _, .cons h hs, 0, _, _ => h
  | _, _, .cons h hs, i + 1, h1, h2 => hs.get i (by simpa using h1) (by simpa using h2)
theorem LeAs.map {α : Type} {f g : α → AV} : ∀ (l : List α), (∀ x ∈ l, LeA (f x) (g x)) → LeAs (l.map f) (l.map g)
  | [], _ => .nil
  | x :: r, h => .cons (h x (by simp)) (LeAs.map r fun y hy => h y (by simp [hy]))

mutual
theorem RP.le {w : World} {G : Nat → Prop} : ∀ {a b : AV}, LeA a b → ∀ {v : Value}, RP w G v a → RP w G v b
  | _, _, .refl _, _, r => r
  | _, _, .nils sh, _, r => by cases r; exact .list0 sh _ _
  | _, _, .agg h, _, r => by
    cases r with
    | agg vs cs hsz hr ho => exact .agg vs _ (by rw [h.length]; exact hsz) (fun i hi => RPs.le h i _ (by rw [← h.length]; exact hi) hi (hr i (by rw [← h.length]; exact hi))) ho
  | _, _, .list sh h, v, r => by
    have hl := h.length
    generalize hq : AV.list sh _ = q at r
    cases r with
    | list0 sh' a c =>
      cases hq
      have := List.length_eq_zero_iff.1 hl
      rw [this]; exact .list0 sh a c
    | list sh' b o c l vs hc hb hr hs hcell =>
      cases hq
      rw [← hl]
      exact .list sh b o c _ vs (by omega) hb (fun i hi => RPs.le h i _ (by omega) hi (hr i (by omega))) (fun i hi => hs i (by omega)) (fun i j hi hj => hcell i j (by omega) hj)
    | _ => cases hq
  | _, _, .tup h, _, r => by cases r
theorem RPs.le {w : World} {G : Nat → Prop} : ∀ {l l' : List AV}, LeAs l l' → ∀ (i : Nat) (v : Value) (h : i < l.length) (h' : i < l'.length), RP w G v l[i] → RP w G v l'[i]
  | _, _, .nil, i, _, h, _, _ => by simp at h
  | _, _, .cons h hs, 0, _, _, _, r => RP.le h r
  | _, _, .cons h hs, i + 1, v, h1, h2, r => RPs.le hs i v (by simpa using h1) (by simpa using h2) r
end

theorem RL.le {C : Ctx} {a b : AV} (h : LeA a b) {v : Value} (r : RL C v a) : RL C v b := by
  cases h with
  | refl => exact r
  | nils sh => exact RP.le (.nils sh) r
  | list sh h => exact RP.le (.list sh h) r
  | agg h => exact r.elim
  | tup h => exact r.elim
theorem R1.le {C : Ctx} {a b : AV} (h : LeA a b) {v : Value} (r : R1 C v a) : R1 C v b := by
  cases h with
  | refl => exact r
  | nils sh => exact RL.le (.nils sh) r
  | list sh h => exact RL.le (.list sh h) r
  | agg h => exact r.elim
  | tup h => exact r.elim
theorem RA.le {C : Ctx} {a b : AV} (h : LeA a b) {v : Value} (r : RA C v a) : RA C v b := by
  cases h with
  | refl => exact r
  | nils sh => exact R1.le (.nils sh) r
  | list sh h => exact R1.le (.list sh h) r
  | agg h =>
    obtain ⟨vs, hv, hsz, hc, ho⟩ := r
    exact ⟨vs, hv, by rw [h.length]; exact hsz, fun i hi => (hc i (by rw [← h.length]; exact hi)).le (h.get i _ hi), ho⟩
  | tup h => exact r.elim
theorem RT.le {C : Ctx} {a b : AV} (h : LeA a b) {v : Value} (r : RT C v a) : RT C v b := by
  cases h with
  | refl => exact r
  | nils sh => exact RA.le (.nils sh) r
  | list sh h => exact RA.le (.list sh h) r
  | agg h => exact RA.le (.agg h) r
  | tup h =>
    obtain ⟨vs, hv, hsz, hc⟩ := r
    exact ⟨vs, hv, by rw [h.length]; exact hsz, fun i hi => (hc i (by rw [← h.length]; exact hi)).le (h.get i _ hi)⟩

end Go.Bv
