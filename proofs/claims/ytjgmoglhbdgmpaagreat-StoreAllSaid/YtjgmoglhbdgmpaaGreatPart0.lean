/- Part of the lift: an abstract walk of the program's code, proved sound, and what it shows of this program. -/
import Derived.Calls
import Derived.Below
import Derived.Orders
import Derived.Laws.StructEq
import Derived.Laws.Cover1
namespace Go.Bv
theorem zLm {α β : Type} {as : List α} (f : α → β) : (as.map f).length = as.length := List.length_map f
theorem zLa {α : Type} {as bs : List α} : (as ++ bs).length = as.length + bs.length := List.length_append
theorem zLr {α : Type} {n : Nat} {a : α} : (List.replicate n a).length = n := List.length_replicate
theorem zLc {α : Type} {a : α} {as : List α} : (a :: as).length = as.length + 1 := List.length_cons
theorem zLn {α : Type} : ([] : List α).length = 0 := List.length_nil
theorem zLt {α : Type} {i : Nat} {l : List α} : (l.take i).length = min i l.length := List.length_take
theorem zLd {α : Type} {i : Nat} {l : List α} : (l.drop i).length = l.length - i := List.length_drop
open Go
/-- The shape of a variable: one cell, or a struct (array) of n cells. -/
inductive Sh where
 | leaf
 | agg (n : Nat)
 deriving DecidableEq
def Sh.size : Sh → Nat
 | .leaf => 1
 | .agg n => n
/-- Abstract values. -/
inductive AV where
 | bool (b : Bool)
 | int (k : IntKind) (n : Int)
 | str (s : List UInt8)
 | nils
 | nilfn
 | list (sh : Sh) (l : List AV)
 | at (sh : Sh) (x : AV) (o : Nat)
 | own (id off len : Nat)
 | ptr (id i o : Nat)
 | map (id : Nat)
 | fn (f : FuncId) (caps : List AV)
 | agg (cs : List AV)
 | tup (vs : List AV)
 | undef
instance : Inhabited AV := ⟨.undef⟩
def okSh (v : Value) : Sh → Prop
 | .leaf => v.oneCell' = true
 | .agg n => ∃ cs : Array Value, v = .agg cs ∧ cs.size = n ∧ ∀ (i : Nat) (x : Value), cs[i]? = some x → x.oneCell' = true
theorem cells_one {v : Value} (h : v.oneCell' = true) : v.cells = #[v] := by
 cases v <;> simp_all [Value.oneCell', Value.cells]
theorem okSh.size {v : Value} {sh : Sh} (h : okSh v sh) : v.cells.size = sh.size := by
 cases sh with
 | leaf => simp only [okSh] at h; simp [cells_one h, Sh.size]
 | agg n => obtain ⟨cs, rfl, rfl, _⟩ := h; simp [Value.cells, Sh.size]
theorem okSh.cell_one {v : Value} {sh : Sh} (h : okSh v sh) {j : Nat} {x : Value} (hx : v.cells[j]? = some x) : x.oneCell' = true := by
 cases sh with
 | leaf =>
  simp only [okSh] at h; rw [cells_one h] at hx
  cases j <;> simp at hx; subst hx; exact h
 | agg n => obtain ⟨cs, rfl, rfl, hc⟩ := h; exact hc j x hx
/-- What a value reads as in memory that nobody will write any more (the blocks of G). -/
inductive RP (w : World) (G : Nat → Prop) : Value → AV → Prop
 | bool (b : Bool) : RP w G (.bool b) (.bool b)
 | int (k : IntKind) (n : Int) : RP w G (.int k n) (.int k n)
 | str (s : ByteArray) : RP w G (.string s) (.str s.data.toList)
 | nils : RP w G (.slice none 0 0) .nils
 | nilfn : RP w G .nilFunc .nilfn
 | list0 (sh : Sh) (a : Option Addr) (c : Nat) : RP w G (.slice a 0 c) (.list sh [])
 | list (sh : Sh) (b o c : Nat) (l : List AV) (vs : Nat → Value) : l.length ≤ c → G b →
   (∀ (i : Nat) (h : i < l.length), RP w G (vs i) l[i]) → (∀ i, i < l.length → okSh (vs i) sh) →
   (∀ i j, i < l.length → j < sh.size → w.cell? ⟨b, o + i * sh.size + j, none⟩ = (vs i).cells[j]?) →
   RP w G (.slice (some ⟨b, o, none⟩) l.length c) (.list sh l)
 | agg (vs : Array Value) (cs : List AV) : vs.size = cs.length →
   (∀ (i : Nat) (h : i < cs.length), RP w G (vs.getD i undef) cs[i]) →
   (∀ (i : Nat) (x : Value), vs[i]? = some x → x.oneCell' = true) → RP w G (.agg vs) (.agg cs)
 | at (sh : Sh) (b o k : Nat) (v : Value) (x : AV) : G b → RP w G v x → okSh v sh →
   (∀ j, j < sh.size → w.cell? ⟨b, o + j, none⟩ = v.cells[j]?) → RP w G (.pointer (some ⟨b, o + k, none⟩)) (.at sh x k)
theorem cell?_congr {w w' : World} {b o : Nat} (h : w'.heap[b]? = w.heap[b]?) : w'.cell? ⟨b, o, none⟩ = w.cell? ⟨b, o, none⟩ := by
 simp only [World.cell?, h]
theorem RP.mono {w w' : World} {G G' : Nat → Prop} (h : ∀ b, G b → G' b ∧ w'.heap[b]? = w.heap[b]?) {v : Value} {a : AV} (r : RP w G v a) : RP w' G' v a := by
 induction r with
 | bool b => exact .bool b
 | int k n => exact .int k n
 | str s => exact .str s
 | nils => exact .nils
 | nilfn => exact .nilfn
 | list0 sh a c => exact .list0 sh a c
 | list sh b o c l vs hc hb _ hs hcell ih =>
  exact .list sh b o c l vs hc (h b hb).1 ih hs (fun i j hi hj => by rw [cell?_congr (h b hb).2]; exact hcell i j hi hj)
 | agg vs cs hsz _ ho ih => exact .agg vs cs hsz ih ho
 | «at» sh b o k v x hb _ hs hcell ih =>
  exact .at sh b o k v x (h b hb).1 ih hs (fun j hj => by rw [cell?_congr (h b hb).2]; exact hcell j hj)
/-- The kinds of rows: one variable; the elements of a slice; the same, and an empty one may have no memory. -/
inductive RK where
 | box
 | row
 | vrow
/-- An owned block: a row of elements, or a map. -/
inductive Blk where
 | dead
 | row (k : RK) (sh : Sh) (es : List AV)
 | map (es : List (AV × AV))
 | ro (sh : Sh) (es : List AV)
structure Ctx where
 w : World
 F : Nat → Prop
 β : Nat → Nat
 H : List Blk
def Blk.live : Blk → Prop
 | .dead => False
 | .ro _ _ => False
 | .row .vrow _ es => es ≠ []
 | _ => True
theorem Blk.live_row {k : RK} {sh : Sh} {es es' : List AV} (hl : es.length = es'.length) (h : (Blk.row k sh es).live) : (Blk.row k sh es').live := by
 cases k <;> simp only [Blk.live] at h ⊢
 intro e; subst e; simp at hl; exact h hl
theorem Blk.not_live_row {k : RK} {sh : Sh} {es : List AV} (h : ¬ (Blk.row k sh es).live) : k = .vrow ∧ es = [] := by
 cases k <;> simp [Blk.live] at h ⊢
 exact h
def Ctx.owned (C : Ctx) (b : Nat) : Prop := ∃ id k, C.H[id]? = some k ∧ k.live ∧ C.β id = b
def Ctx.G (C : Ctx) (b : Nat) : Prop := b < C.w.heap.size ∧ ¬ C.F b ∧ ¬ C.owned b
def RL (C : Ctx) (v : Value) : AV → Prop
 | .own id off len => v.oneCell' = true ∧ id < C.H.length ∧ (∀ k sh es, C.H[id]? = some (.row k sh es) →
   (¬ (Blk.row k sh es).live → ∃ a, v = .slice a 0 0 ∧ len = 0) ∧
   ((Blk.row k sh es).live → ∃ cap, v = .slice (some ⟨C.β id, off * sh.size, none⟩) len cap ∧ len ≤ cap ∧ es.length ≤ off + cap ∧
    ∃ c T fr, C.w.heap[C.β id]? = some (.cells c T fr) ∧ (off + cap) * sh.size ≤ c.size)) ∧
   (∀ k sh es, C.H[id]? = some (.row k sh es) → off + len ≤ es.length) ∧
   (∀ sh es, C.H[id]? = some (.ro sh es) → off + len ≤ es.length ∧ RP C.w C.G v (.list sh ((es.drop off).take len)))
 | .ptr id i o => v.oneCell' = true ∧ id < C.H.length ∧ ∀ k sh es, C.H[id]? = some (.row k sh es) → v = .pointer (some ⟨C.β id, i * sh.size + o, none⟩)
 | .map id => v.oneCell' = true ∧ id < C.H.length ∧ ∀ es, C.H[id]? = some (.map es) → v = .map (some (C.β id))
 | .undef => True
 | .fn _ _ => False
 | .tup _ => False
 | .agg _ => False
 | a => RP C.w C.G v a
def R1 (C : Ctx) (v : Value) : AV → Prop
 | .fn f caps => ∃ cv : Array Value, v = .func (.func f) #[] cv ∧ cv.size = caps.length ∧ ∀ (i : Nat) (h : i < caps.length), RL C (cv.getD i undef) caps[i]
 | a => RL C v a
def RA (C : Ctx) (v : Value) : AV → Prop
 | .agg cs => ∃ vs : Array Value, v = .agg vs ∧ vs.size = cs.length ∧ (∀ (i : Nat) (h : i < cs.length), R1 C (vs.getD i undef) cs[i]) ∧
   ∀ (i : Nat) (x : Value), vs[i]? = some x → x.oneCell' = true
 | a => R1 C v a
def RT (C : Ctx) (v : Value) : AV → Prop
 | .tup as => ∃ vs : Array Value, v = .tuple vs ∧ vs.size = as.length ∧ ∀ (i : Nat) (h : i < as.length), RA C (vs.getD i undef) as[i]
 | a => RA C v a
structure HRep (C : Ctx) : Prop where
 inj : ∀ (i j : Nat) (k m : Blk), C.H[i]? = some k → C.H[j]? = some m → k.live → m.live → C.β i = C.β j → i = j
 notF : ∀ (i : Nat) (k : Blk), C.H[i]? = some k → k.live → ¬ C.F (C.β i)
 Flt : ∀ b, C.F b → b < C.w.heap.size
 sz : ∀ (id : Nat) (k : RK) (sh : Sh) (es : List AV), C.H[id]? = some (.row k sh es) → 0 < sh.size
 row : ∀ (id : Nat) (k : RK) (sh : Sh) (es : List AV), C.H[id]? = some (.row k sh es) → (Blk.row k sh es).live →
  ∃ c T fr, C.w.heap[C.β id]? = some (.cells c T fr) ∧ (fr.1 = fr.2 ∨ c.size ≤ fr.1) ∧ es.length * sh.size ≤ c.size ∧
   (∀ (o : Nat) (x : Value), c[o]? = some x → x.oneCell' = true) ∧
   ∀ (i : Nat) (h : i < es.length), ∃ v, RA C v es[i] ∧ (k ≠ .box → RP C.w C.G v es[i]) ∧ okSh v sh ∧ ∀ j, j < sh.size → c[i * sh.size + j]? = v.cells[j]?
 map : ∀ (id : Nat) (es : List (AV × AV)), C.H[id]? = some (.map es) →
  ∃ (me : Array MapEntry) (clock : Nat), C.w.heap[C.β id]? = some (.map me clock) ∧ me.size = es.length ∧
   ∀ (i : Nat) (h : i < es.length), ∃ m, me[i]? = some m ∧ RP C.w C.G m.key es[i].1 ∧ RP C.w C.G m.val es[i].2
/-- What a row that nobody writes any more holds. -/
def RoAt (w : World) (G : Nat → Prop) (b : Nat) (sh : Sh) (es : List AV) : Prop :=
 G b ∧ ∀ (i : Nat) (h : i < es.length), ∃ v, RP w G v es[i] ∧ okSh v sh ∧ ∀ j, j < sh.size → w.cell? ⟨b, i * sh.size + j, none⟩ = v.cells[j]?
theorem RoAt.mono {w w' : World} {G G' : Nat → Prop} (h : ∀ b, G b → G' b ∧ w'.heap[b]? = w.heap[b]?) {b : Nat} {sh : Sh} {es : List AV} (r : RoAt w G b sh es) : RoAt w' G' b sh es :=
 ⟨(h b r.1).1, fun i hi => by
  obtain ⟨v, hv, hs, hc⟩ := r.2 i hi
  exact ⟨v, hv.mono h, hs, fun j hj => by rw [cell?_congr (h b r.1).2]; exact hc j hj⟩⟩
theorem RoAt.list {w : World} {G : Nat → Prop} {b : Nat} {sh : Sh} {es : List AV} (r : RoAt w G b sh es) {off len cap : Nat} (hle : off + len ≤ es.length) (hcap : len ≤ cap) :
  RP w G (.slice (some ⟨b, off * sh.size, none⟩) len cap) (.list sh ((es.drop off).take len)) := by
 have hlen : ((es.drop off).take len).length = len := by simp; omega
 have hx : ∀ i, ∃ v, ∀ (h : i < ((es.drop off).take len).length), RP w G v ((es.drop off).take len)[i] ∧ okSh v sh ∧ ∀ j, j < sh.size → w.cell? ⟨b, (off + i) * sh.size + j, none⟩ = v.cells[j]? := fun i => by
  by_cases h : i < ((es.drop off).take len).length
  ·obtain ⟨v, hv, hs, hc⟩ := r.2 (off + i) (by omega)
   refine ⟨v, fun _ => ⟨?_, hs, hc⟩⟩
   simpa using hv
  ·exact ⟨undef, fun h' => absurd h' h⟩
 have := RP.list (w := w) (G := G) sh b (off * sh.size) cap ((es.drop off).take len) (fun i => Classical.choose (hx i)) (by omega) r.1
  (fun i hi => (Classical.choose_spec (hx i) hi).1) (fun i hi => (Classical.choose_spec (hx i) hi).2.1)
  (fun i j hi hj => by rw [← (Classical.choose_spec (hx i) hi).2.2 j hj, Nat.add_mul])
 rwa [hlen] at this
/-- From C to C': nothing that is not owned has turned. -/
structure Ext (C C' : Ctx) : Prop where
 F : C'.F = C.F
 os : C'.w.os = C.w.os
 tape : C'.w.tape = C.w.tape
 output : C'.w.output = C.w.output
 size : C.w.heap.size ≤ C'.w.heap.size
 len : C.H.length ≤ C'.H.length
 beta : ∀ id, id < C.H.length → C'.β id = C.β id
 keep : ∀ b, b < C.w.heap.size → ¬ C.owned b → C'.w.heap[b]? = C.w.heap[b]?
 fresh : ∀ (id : Nat) (k : Blk), C.H.length ≤ id → C'.H[id]? = some k → k.live → C.w.heap.size ≤ C'.β id ∨ C.owned (C'.β id)
 rows : ∀ (id : Nat) (k : RK) (sh : Sh) (es : List AV), id < C.H.length → C'.H[id]? = some (.row k sh es) →
  ∃ es0, C.H[id]? = some (.row k sh es0) ∧ es0.length = es.length ∧
   ((Blk.row k sh es).live → ∃ c T fr c' T' fr', C.w.heap[C.β id]? = some (.cells c T fr) ∧ C'.w.heap[C.β id]? = some (.cells c' T' fr') ∧ c'.size = c.size)
 maps : ∀ (id : Nat) (es : List (AV × AV)), id < C.H.length → C'.H[id]? = some (.map es) → ∃ es0, C.H[id]? = some (.map es0)
 ros : ∀ (id : Nat) (sh : Sh) (es : List AV), id < C.H.length → C'.H[id]? = some (.ro sh es) → C.H[id]? = some (.ro sh es) ∨
  ∃ k es0, C.H[id]? = some (.row k sh es0) ∧ es0.length = es.length ∧ ((Blk.row k sh es0).live → RoAt C'.w C'.G (C.β id) sh es)
theorem Ext.live {C C' : Ctx} (h : Ext C C') {id : Nat} {k : Blk} (hid : id < C.H.length) (hk : C'.H[id]? = some k) (hl : k.live) : ∃ k0, C.H[id]? = some k0 ∧ k0.live := by
 cases k with
 | dead => simp [Blk.live] at hl
 | ro sh es => simp [Blk.live] at hl
 | row p sh es => obtain ⟨es0, h0, hlen, _⟩ := h.rows id p sh es hid hk; exact ⟨_, h0, Blk.live_row hlen.symm hl⟩
 | map es => obtain ⟨es0, h0⟩ := h.maps id es hid hk; exact ⟨_, h0, trivial⟩
theorem Ext.owned {C C' : Ctx} (h : Ext C C') {b : Nat} (ho : C'.owned b) : C.owned b ∨ C.w.heap.size ≤ b := by
 obtain ⟨id, k, hk, hl, rfl⟩ := ho
 rcases Nat.lt_or_ge id C.H.length with hid | hid
 ·obtain ⟨k0, h0, hl0⟩ := h.live hid hk hl
  exact .inl ⟨id, k0, h0, hl0, (h.beta id hid).symm⟩
 ·exact (h.fresh id k hid hk hl).symm
theorem Ext.G {C C' : Ctx} (h : Ext C C') {b : Nat} (hb : C.G b) : C'.G b ∧ C'.w.heap[b]? = C.w.heap[b]? := by
 obtain ⟨h1, h2, h3⟩ := hb
 refine ⟨⟨Nat.lt_of_lt_of_le h1 h.size, by rw [h.F]; exact h2, fun ho => ?_⟩, h.keep b h1 h3⟩
 rcases h.owned ho with h' | h'
 ·exact h3 h'
 ·omega
theorem Ext.RP {C C' : Ctx} (h : Ext C C') {v : Value} {a : AV} (r : RP C.w C.G v a) : RP C'.w C'.G v a := r.mono fun _ hb => h.G hb
theorem Ext.RL {C C' : Ctx} (h : Ext C C') {v : Value} {a : AV} (r : RL C v a) : RL C' v a := by
 cases a <;> simp only [Bv.RL] at r ⊢ <;> first | exact h.RP r | skip
 ·obtain ⟨h3, h1, h2, h4, h5⟩ := r
  refine ⟨h3, Nat.lt_of_lt_of_le h1 h.len, fun p sh es he => ?_, fun p sh es he => ?_, fun sh es he => ?_⟩
  rotate_left
  ·obtain ⟨es0, h0, hlen, hblk⟩ := h.rows _ p sh es h1 he
   have := h4 p sh es0 h0
   omega
  ·rcases h.ros _ sh es h1 he with h0 | ⟨k, es0, h0, hlen, hr⟩
   ·exact ⟨(h5 sh es h0).1, h.RP (h5 sh es h0).2⟩
   ·have hb := h4 k sh es0 h0
    refine ⟨by omega, ?_⟩
    obtain ⟨hn, hy⟩ := h2 k sh es0 h0
    by_cases hl : (Blk.row k sh es0).live
    ·obtain ⟨cap, rfl, hcap, _⟩ := hy hl
     exact (hr hl).list (by omega) hcap
    ·obtain ⟨a, rfl, h00⟩ := hn hl
     subst h00
     rw [List.take_zero]
     exact .list0 sh a 0
  obtain ⟨es0, h0, hlen, hblk⟩ := h.rows _ p sh es h1 he
  obtain ⟨hn, hy⟩ := h2 p sh es0 h0
  refine ⟨fun hd => hn fun hl => hd (Blk.live_row hlen hl), fun hl => ?_⟩
  obtain ⟨cap, hv, hl', hes, c1, T1, fr1, hc1, hle⟩ := hy (Blk.live_row hlen.symm hl)
  obtain ⟨c, T, fr, c', T', fr', hc, hc', hsz⟩ := hblk hl
  rw [h.beta _ h1]
  rw [hc] at hc1
  cases hc1
  exact ⟨cap, hv, hl', by omega, c', T', fr', hc', by omega⟩
 ·obtain ⟨h3, h1, h2⟩ := r
  refine ⟨h3, Nat.lt_of_lt_of_le h1 h.len, fun p sh es he => ?_⟩
  obtain ⟨es0, h0, _⟩ := h.rows _ p sh es h1 he
  rw [h.beta _ h1]
  exact h2 p sh es0 h0
 ·obtain ⟨h3, h1, h2⟩ := r
  refine ⟨h3, Nat.lt_of_lt_of_le h1 h.len, fun es he => ?_⟩
  obtain ⟨es0, h0⟩ := h.maps _ es h1 he
  rw [h.beta _ h1]
  exact h2 es0 h0
theorem Ext.R1 {C C' : Ctx} (h : Ext C C') {v : Value} {a : AV} (r : R1 C v a) : R1 C' v a := by
 cases a with
 | fn f caps =>
  obtain ⟨cv, hv, hsz, hc⟩ := r
  exact ⟨cv, hv, hsz, fun i hi => h.RL (hc i hi)⟩
 | _ => simp only [Bv.R1] at r ⊢; exact h.RL r
theorem Ext.RA {C C' : Ctx} (h : Ext C C') {v : Value} {a : AV} (r : RA C v a) : RA C' v a := by
 cases a with
 | agg cs =>
  obtain ⟨cv, hv, hsz, hc, ho⟩ := r
  exact ⟨cv, hv, hsz, fun i hi => h.R1 (hc i hi), ho⟩
 | _ => simp only [Bv.RA] at r ⊢; exact h.R1 r
theorem Ext.RT {C C' : Ctx} (h : Ext C C') {v : Value} {a : AV} (r : RT C v a) : RT C' v a := by
 cases a with
 | tup as =>
  obtain ⟨cv, hv, hsz, hc⟩ := r
  exact ⟨cv, hv, hsz, fun i hi => h.RA (hc i hi)⟩
 | _ => simp only [Bv.RT] at r ⊢; exact h.RA r
theorem Ext.refl (C : Ctx) (hC : HRep C) : Ext C C where
 F := rfl
 os := rfl
 tape := rfl
 output := rfl
 size := Nat.le_refl _
 len := Nat.le_refl _
 beta := fun _ _ => rfl
 keep := fun _ _ _ => rfl
 fresh := fun id k hid hk _ => by
  have := (List.getElem?_eq_some_iff.1 hk).1
  omega
 rows := fun id p sh es _ he => by
  refine ⟨es, he, rfl, fun hl => ?_⟩
  obtain ⟨c, T, fr, hc, _⟩ := hC.row id p sh es he hl
  exact ⟨c, T, fr, c, T, fr, hc, hc, rfl⟩
 maps := fun id es _ he => ⟨es, he⟩
 ros := fun id sh es _ he => .inl he
theorem Ext.trans {A B C : Ctx} (h : Ext A B) (k : Ext B C) : Ext A C where
 F := k.F.trans h.F
 os := k.os.trans h.os
 tape := k.tape.trans h.tape
 output := k.output.trans h.output
 size := Nat.le_trans h.size k.size
 len := Nat.le_trans h.len k.len
 beta := fun id hid => (k.beta id (Nat.lt_of_lt_of_le hid h.len)).trans (h.beta id hid)
 keep := fun b hb ho => by
  have hb' : b < B.w.heap.size := Nat.lt_of_lt_of_le hb h.size
  rw [k.keep b hb' fun ho' => (h.owned ho').elim ho (by omega), h.keep b hb ho]
 fresh := fun id m hid hm hl => by
  rcases Nat.lt_or_ge id B.H.length with hB | hB
  ·obtain ⟨m0, h0, hl0⟩ := k.live hB hm hl
   rw [k.beta id hB]
   exact h.fresh id m0 hid h0 hl0
  ·rcases k.fresh id m hB hm hl with h1 | h1
   ·exact .inl (Nat.le_trans h.size h1)
   ·exact (h.owned h1).symm
 rows := fun id p sh es hid he => by
  have hB : id < B.H.length := Nat.lt_of_lt_of_le hid h.len
  obtain ⟨es1, h1, hl1, hb1⟩ := k.rows id p sh es hB he
  obtain ⟨es0, h0, hl0, hb0⟩ := h.rows id p sh es1 hid h1
  refine ⟨es0, h0, by omega, fun hl => ?_⟩
  obtain ⟨c1, T1, fr1, c2, T2, fr2, hc1, hc2, hs2⟩ := hb1 hl
  obtain ⟨c0, T0, fr0, c1', T1', fr1', hc0, hc1', hs1⟩ := hb0 (Blk.live_row hl1.symm hl)
  rw [h.beta id hid] at hc1 hc2
  rw [hc1'] at hc1
  cases hc1
  exact ⟨c0, T0, fr0, c2, T2, fr2, hc0, hc2, by omega⟩
 maps := fun id es hid he => by
  obtain ⟨es1, h1⟩ := k.maps id es (Nat.lt_of_lt_of_le hid h.len) he
  exact h.maps id es1 hid h1
 ros := fun id sh es hid he => by
  have hB : id < B.H.length := Nat.lt_of_lt_of_le hid h.len
  rcases k.ros id sh es hB he with h1 | ⟨kk, es1, h1, hl1, hr⟩
  ·rcases h.ros id sh es hid h1 with h0 | ⟨kk, es0, h0, hl0, hr⟩
   ·exact .inl h0
   ·exact .inr ⟨kk, es0, h0, hl0, fun hl => (hr hl).mono fun b hb => k.G hb⟩
  ·obtain ⟨es0, h0, hl0, _⟩ := h.rows id kk sh es1 hid h1
   refine .inr ⟨kk, es0, h0, by omega, fun hl => ?_⟩
   rw [← h.beta id hid]
   exact hr (Blk.live_row hl0 hl)
theorem RP.RA {C : Ctx} {v : Value} {a : AV} (r : RP C.w C.G v a) : RA C v a := by
 cases r with
 | agg vs cs hsz hr ho =>
  refine ⟨vs, rfl, hsz, fun i hi => ?_, ho⟩
  have h1 := hr i hi
  have hlt : i < vs.size := by omega
  have h2 := ho i vs[i] (Array.getElem?_eq_getElem hlt)
  rw [Array.getD_eq_getD_getElem?, Array.getElem?_eq_getElem hlt, Option.getD_some] at h1 ⊢
  generalize vs[i] = x at *
  generalize cs[i] = y at *
  cases h1 <;> first | (simp [Value.oneCell'] at h2; done) | (simp only [R1, RL]; constructor <;> assumption) | (simp only [R1, RL]; constructor)
 | _ => simp only [Bv.RA, R1, RL]; first | (constructor <;> assumption) | constructor
mutual
inductive LeA : AV → AV → Prop
 | refl (a : AV) : LeA a a
 | nils (sh : Sh) : LeA .nils (.list sh [])
 | agg {l l' : List AV} (h : LeAs l l') : LeA (.agg l) (.agg l')
 | list (sh : Sh) {l l' : List AV} (h : LeAs l l') : LeA (.list sh l) (.list sh l')
 | tup {l l' : List AV} (h : LeAs l l') : LeA (.tup l) (.tup l')
inductive LeAs : List AV → List AV → Prop
 | nil : LeAs [] []
 | cons {a b : AV} {l l' : List AV} (h : LeA a b) (hs : LeAs l l') : LeAs (a :: l) (b :: l')
end
theorem LeAs.refl : ∀ l : List AV, LeAs l l
 | [] => .nil
 | a :: l => .cons (.refl a) (LeAs.refl l)
theorem LeAs.length : ∀ {l l' : List AV}, LeAs l l' → l'.length = l.length
 | _, _, .nil => rfl
 | _, _, .cons _ hs => by simp [hs.length]
theorem LeAs.get : ∀ {l l' : List AV}, LeAs l l' → ∀ (i : Nat) (h : i < l.length) (h' : i < l'.length), LeA l[i] l'[i]
 | _, _, .nil, i, h, _ => by simp at h
 | _, _, .cons h hs, 0, _, _ => h
 | _, _, .cons h hs, i + 1, h1, h2 => hs.get i (by simpa using h1) (by simpa using h2)
theorem LeAs.map {α : Type} {f g : α → AV} : ∀ (l : List α), (∀ x ∈ l, LeA (f x) (g x)) → LeAs (l.map f) (l.map g)
 | [], _ => .nil
 | x :: r, h => .cons (h x (by simp)) (LeAs.map r fun y hy => h y (by simp [hy]))
mutual
theorem RP.le {w : World} {G : Nat → Prop} : ∀ {a b : AV}, LeA a b → ∀ {v : Value}, RP w G v a → RP w G v b
 | _, _, .refl _, _, r => r
 | _, _, .nils sh, _, r => by cases r; exact .list0 sh _ _
 | _, _, .agg h, _, r => by
  cases r with
  | agg vs cs hsz hr ho => exact .agg vs _ (by rw [h.length]; exact hsz) (fun i hi => RPs.le h i _ (by rw [← h.length]; exact hi) hi (hr i (by rw [← h.length]; exact hi))) ho
 | _, _, .list sh h, v, r => by
  have hl := h.length
  generalize hq : AV.list sh _ = q at r
  cases r with
  | list0 sh' a c =>
   cases hq
   have := List.length_eq_zero_iff.1 hl
   rw [this]; exact .list0 sh a c
  | list sh' b o c l vs hc hb hr hs hcell =>
   cases hq
   rw [← hl]
   exact .list sh b o c _ vs (by omega) hb (fun i hi => RPs.le h i _ (by omega) hi (hr i (by omega))) (fun i hi => hs i (by omega)) (fun i j hi hj => hcell i j (by omega) hj)
  | _ => cases hq
 | _, _, .tup h, _, r => by cases r
theorem RPs.le {w : World} {G : Nat → Prop} : ∀ {l l' : List AV}, LeAs l l' → ∀ (i : Nat) (v : Value) (h : i < l.length) (h' : i < l'.length), RP w G v l[i] → RP w G v l'[i]
 | _, _, .nil, i, _, h, _, _ => by simp at h
 | _, _, .cons h hs, 0, _, _, _, r => RP.le h r
 | _, _, .cons h hs, i + 1, v, h1, h2, r => RPs.le hs i v (by simpa using h1) (by simpa using h2) r
end
theorem RL.le {C : Ctx} {a b : AV} (h : LeA a b) {v : Value} (r : RL C v a) : RL C v b := by
 cases h with
 | refl => exact r
 | nils sh => exact RP.le (.nils sh) r
 | list sh h => exact RP.le (.list sh h) r
 | agg h => exact r.elim
 | tup h => exact r.elim
theorem R1.le {C : Ctx} {a b : AV} (h : LeA a b) {v : Value} (r : R1 C v a) : R1 C v b := by
 cases h with
 | refl => exact r
 | nils sh => exact RL.le (.nils sh) r
 | list sh h => exact RL.le (.list sh h) r
 | agg h => exact r.elim
 | tup h => exact r.elim
theorem RA.le {C : Ctx} {a b : AV} (h : LeA a b) {v : Value} (r : RA C v a) : RA C v b := by
 cases h with
 | refl => exact r
 | nils sh => exact R1.le (.nils sh) r
 | list sh h => exact R1.le (.list sh h) r
 | agg h =>
  obtain ⟨vs, hv, hsz, hc, ho⟩ := r
  exact ⟨vs, hv, by rw [h.length]; exact hsz, fun i hi => (hc i (by rw [← h.length]; exact hi)).le (h.get i _ hi), ho⟩
 | tup h => exact r.elim
theorem RT.le {C : Ctx} {a b : AV} (h : LeA a b) {v : Value} (r : RT C v a) : RT C v b := by
 cases h with
 | refl => exact r
 | nils sh => exact RA.le (.nils sh) r
 | list sh h => exact RA.le (.list sh h) r
 | agg h => exact RA.le (.agg h) r
 | tup h =>
  obtain ⟨vs, hv, hsz, hc⟩ := r
  exact ⟨vs, hv, by rw [h.length]; exact hsz, fun i hi => (hc i (by rw [← h.length]; exact hi)).le (h.get i _ hi)⟩
end Go.Bv
namespace Go.Bv
open Go
def Sh.beq : Sh → Sh → Bool
 | .leaf, .leaf => true
 | .agg n, .agg m => Nat.beq n m
 | _, _ => false
inductive TK where
 | int (k : IntKind)
 | bool
 | str
 | slice (e : TypeId)
 | struct (fs : List (Nat × Sh)) (eq : Option (List Nat))
 | array (n : Nat) (e : TypeId)
 | map (k e : TypeId)
 | other
structure TI where
 sh : Sh
 bytes : Nat
 kind : TK
 zero : AV
/-- A closed value of one cell as an abstract one. -/
def avOf : Value → AV
 | .bool b => .bool b
 | .int k n => .int k n
 | .string s => .str s.data.toList
 | .slice none 0 0 => .nils
 | .nilFunc => .nilfn
 | _ => .undef
def avOfA : Value → AV
 | .agg cs => if cs.toList.all Value.oneCell' then .agg (cs.toList.map avOf) else .undef
 | v => avOf v
/-- A type's zero value; a nil map has a mark of its own. -/
def avOfZ : Value → AV
 | .map none => .tup []
 | v => avOfA v
def isAggD : TypeDesc → Bool
 | .struct _ | .array _ _ => true
 | _ => false
def shOf (P : Program) (t : TypeId) : Sh :=
 match P.underlying t with
 | some d => if isAggD d then .agg (P.cellsOf t) else .leaf
 | none => .leaf
def eqKs (P : Program) (sub : List Field → Option (List Nat)) : Nat → List Field → Option (List Nat)
 | _, [] => some []
 | i, f :: r =>
  if f.name != "_" && Nat.beq f.offset i then
   match P.underlying f.type with
   | some (.int _) => (eqKs P sub (i + 1) r).map (0 :: ·)
   | some .string => (eqKs P sub (i + 1) r).map (1 :: ·)
   | some .bool => (eqKs P sub (i + 1) r).map (2 :: ·)
   | some (.struct fs) => match sub fs.toList with
    | some ks => if Nat.beq ks.length (P.cellsOf f.type) && !P.stoodInHeld f.type then (eqKs P sub (i + ks.length) r).map (ks ++ ·) else none
    | none => none
   | _ => none
  else none
def eqKinds (P : Program) : Nat → List Field → Option (List Nat) := eqKs P (eqKs P (fun _ => none) 0)
def fieldOk (P : Program) (t : TypeId) : Bool :=
 match P.underlying t with
 | some d => isAggD d || P.cellsOf t == 1
 | none => false
def kindOf (P : Program) (t : TypeId) : TypeDesc → TK
 | .int k => .int k
 | .bool => .bool
 | .string => .str
 | .slice e => .slice e
 | .struct fs => if fs.toList.all fun f => fieldOk P f.type then .struct (fs.toList.map fun f => (f.offset, shOf P f.type)) (if !P.stoodInHeld t && !P.eqGuardType P.depth t then eqKinds P 0 fs.toList else none) else .other
 | .array n e => .array n e
 | .map k e => .map k e
 | _ => .other
def tiOf (P : Program) (t : TypeId) : Option TI :=
 match P.info? t, P.underlying t with
 | some i, some d =>
  if (!isAggD d && i.size != 1) || i.bytes > 4294967296 then none else
  some { sh := if isAggD d then .agg i.size else .leaf, bytes := i.bytes, kind := kindOf P t d, zero := match i.zero with | some z => avOfZ z | none => .undef }
 | _, _ => none
/-- A table of types. -/
structure Tab (P : Program) where
 tbl : List (Option TI)
 ok : ∀ (t : TypeId) (ti : TI), tbl[t]? = some (some ti) → tiOf P t = some ti
def tget : List (Option TI) → Nat → Option TI
 | [], _ => none
 | x :: _, 0 => x
 | _ :: r, n + 1 => tget r n
theorem tget_eq : ∀ (l : List (Option TI)) (t : Nat) (ti : TI), tget l t = some ti → l[t]? = some (some ti)
 | [], _, _, h => by simp [tget] at h
 | x :: _, 0, ti, h => by simp [tget] at h; simp [h]
 | _ :: r, n + 1, ti, h => by simp only [tget] at h; simpa using tget_eq r n ti h
abbrev Fr := List (Nat × AV)
def Fr.get : Fr → Nat → AV
 | [], _ => .undef
 | (k, v) :: r, t => bif Nat.beq k t then v else Fr.get r t
def Fr.put (fr : Fr) (d : Option Tmp) (v : AV) : Fr :=
 match d with
 | some d => (d, v) :: fr
 | none => fr
def ev (fr : Fr) : Operand → AV
 | .tmp t => fr.get t
 | .const v => avOfA v
 | .global _ => .undef
 | .func f => .fn f []
def NBx (T E : Prop) (b : Bool) : Prop := match b with | true => T | false => E
/-- (The Boolean stands last: the kernel compares arguments from the last one on.) -/
abbrev NB (b : Bool) (T E : Prop) : Prop := NBx T E b
/-- A comparison: both answers. -/
inductive ND (p : Prop) (T E : Prop) : Prop
 | yes (h : p) (hn : T)
 | no (h : ¬ p) (hn : E)
inductive NW (k : IntKind) (n : Int) (next : Int → Prop) : Prop
 | mk (z : Int) (h : z = k.wrap n) (hn : next z)
inductive NP (p : Prop) (next : Prop) : Prop
 | mk (h : p) (hn : next)
inductive NG (l : List AV) (i : Nat) (next : AV → Prop) : Prop
 | mk (x : AV) (h : l[i]? = some x) (hn : next x)
/-- A list may be nil if it is empty. -/
inductive NN (l : List AV) (T E : Prop) : Prop
 | mk (ht : l = [] → T) (he : E)
inductive NSl (l : Int) (len : Nat) (T E : Prop) : Prop
 | mid (h : 0 ≤ l ∧ l.toNat < len) (hn : T)
 | fin (h : l = len) (hn : E)
def force (a : AV) (k : AV → Prop) : Prop :=
 match a with
 | .bool b => k (.bool b)
 | .int j n => k (.int j n)
 | .str s => k (.str s)
 | .nils => k .nils
 | .nilfn => k .nilfn
 | .list sh l => k (.list sh l)
 | .at sh x o => k (.at sh x o)
 | .own id off len => k (.own id off len)
 | .ptr id i o => k (.ptr id i o)
 | .map id => k (.map id)
 | .fn f caps => k (.fn f caps)
 | .agg cs => k (.agg cs)
 | .tup vs => k (.tup vs)
 | .undef => k .undef
theorem force_eq (a : AV) (k : AV → Prop) : force a k = k a := by cases a <;> rfl
/-- A row that nobody writes any more, read under its old name. -/
def thaw (H : List Blk) (a : AV) : AV :=
 match a with
 | .own id off len => match H[id]? with
  | some (.ro sh es) => .list sh ((es.drop off).take len)
  | _ => .own id off len
 | a => a
def forceT (H : List Blk) (a : AV) (k : AV → Prop) : Prop :=
 match a with
 | .bool b => k (.bool b)
 | .int j n => k (.int j n)
 | .str s => k (.str s)
 | .nils => k .nils
 | .nilfn => k .nilfn
 | .list sh l => k (.list sh l)
 | .at sh x o => k (.at sh x o)
 | .own id off len => match H[id]? with
  | some (.ro sh es) => k (.list sh ((es.drop off).take len))
  | _ => k (.own id off len)
 | .ptr id i o => k (.ptr id i o)
 | .map id => k (.map id)
 | .fn f caps => k (.fn f caps)
 | .agg cs => k (.agg cs)
 | .tup vs => k (.tup vs)
 | .undef => k .undef
theorem forceT_eq (H : List Blk) (a : AV) (k : AV → Prop) : forceT H a k = k (thaw H a) := by
 cases a <;> first | rfl | (simp only [forceT, thaw]; split <;> rfl)
def AV.sh : AV → Option Sh
 | .agg cs => some (.agg cs.length)
 | .tup _ => none
 | .undef => none
 | _ => some .leaf
def AV.pure1 : AV → Bool
 | .bool _ | .int _ _ | .str _ | .nils | .nilfn | .list _ _ | .at _ _ _ => true
 | _ => false
def AV.pure : AV → Bool
 | .agg cs => cs.all AV.pure1
 | a => a.pure1
def AV.leafy : AV → Bool
 | .agg _ | .fn _ _ | .tup _ => false
 | _ => true
def AV.noTup : AV → Bool
 | .tup _ => false
 | _ => true
def AV.cells : AV → List AV
 | .agg cs => cs
 | a => [a]
def isSh (a : AV) (sh : Sh) : Bool :=
 match a.sh with
 | some s => s.beq sh
 | none => false
def loadPart (sh t : Sh) (x : AV) (o : Nat) (k : AV → Prop) : Prop :=
 match Nat.beq o 0 && t.beq sh with
 | true => force x k
 | false =>
  match x with
  | .agg cs =>
   match t with
   | .leaf => match cs[o]? with
    | some a => force a k
    | none => False
   | .agg n => match Nat.ble (o + n) cs.length with
    | true => k (.agg ((cs.drop o).take n))
    | false => False
  | _ => False
def storePart (sh t : Sh) (e : AV) (o : Nat) (x : AV) (k : AV → Prop) : Prop :=
 match Nat.beq o 0 && t.beq sh with
 | true => k x
 | false =>
  match e with
  | .agg cs =>
   match t with
   | .leaf => match Nat.ble (o + 1) cs.length with
    | true => k (.agg (cs.set o x))
    | false => False
   | .agg n => match Nat.ble (o + n) cs.length with
    | true => k (.agg (cs.take o ++ (x.cells ++ cs.drop (o + n))))
    | false => False
  | _ => False
def kindBeq : IntKind → IntKind → Bool
 | .i8, .i8 | .i16, .i16 | .i32, .i32 | .i64, .i64 | .u8, .u8 | .u16, .u16 | .u32, .u32 | .u64, .u64 => true
 | _, _ => false
def bitop (op : BinOp) (k : IntKind) (x y : Int) : Int :=
 let a := BitVec.ofInt k.bits x
 let b := BitVec.ofInt k.bits y
 match op with
 | .and => k.wrap (a &&& b).toNat
 | .or => k.wrap (a ||| b).toNat
 | .xor => k.wrap (a ^^^ b).toNat
 | _ => k.wrap (a &&& ~~~b).toNat
def aopInt (op : BinOp) (k : IntKind) (a b : Int) (next : AV → Prop) : Prop :=
 match op with
 | .add => NW k (a + b) fun z => next (.int k z)
 | .sub => NW k (a - b) fun z => next (.int k z)
 | .mul => NW k (a * b) fun z => next (.int k z)
 | .quo => NP (b ≠ 0) (NW k (a.tdiv b) fun z => next (.int k z))
 | .rem => NP (b ≠ 0) (next (.int k (a.tmod b)))
 | .and => next (.int k (bitop .and k a b))
 | .or => next (.int k (bitop .or k a b))
 | .xor => next (.int k (bitop .xor k a b))
 | .andNot => next (.int k (bitop .andNot k a b))
 | .eql => ND (a = b) (next (.bool true)) (next (.bool false))
 | .neq => ND (a = b) (next (.bool false)) (next (.bool true))
 | .lss => ND (a < b) (next (.bool true)) (next (.bool false))
 | .leq => ND (a ≤ b) (next (.bool true)) (next (.bool false))
 | .gtr => ND (b < a) (next (.bool true)) (next (.bool false))
 | .geq => ND (b ≤ a) (next (.bool true)) (next (.bool false))
 | _ => False
def leafEqA : Nat → AV → AV → Option Bool
 | 0, .int j a, .int k b => match kindBeq j k with
  | true => some (decide (a = b))
  | false => none
 | 1, .str a, .str b => some (decide (a = b))
 | 2, .bool a, .bool b => some (a == b)
 | _, _, _ => none
def allEqA : List Nat → List AV → List AV → Option Bool
 | [], [], [] => some true
 | c :: cs, x :: r, y :: q => match leafEqA c x y with
  | some c => match allEqA cs r q with
   | some d => some (c && d)
   | none => none
  | none => none
 | _, _, _ => none
def aopBin (op : BinOp) (kd : TK) (x y : AV) (next : AV → Prop) : Prop :=
 match x with
 | .int ka a =>
  match y with
  | .int kb b =>
   match op with
   | .shl => NP (0 ≤ b) (next (.int ka (ka.wrap (a * 2 ^ (min b.toNat ka.bits)))))
   | .shr => NP (0 ≤ b) (next (.int ka (a.fdiv (2 ^ (min b.toNat ka.bits)))))
   | _ => match kindBeq ka kb with
    | true => aopInt op ka a b next
    | false => False
  | _ => False
 | .str a =>
  match y with
  | .str b =>
   match op with
   | .add => NP (((a.length + b.length : Nat) : Int) ≤ IntKind.i64.max) (next (.str (a ++ b)))
   | .eql => ND (a = b) (next (.bool true)) (next (.bool false))
   | .neq => ND (a = b) (next (.bool false)) (next (.bool true))
   | .lss => ND (Op.bytesLess a b = true) (next (.bool true)) (next (.bool false))
   | .leq => ND ((Op.bytesLess a b || decide (a = b)) = true) (next (.bool true)) (next (.bool false))
   | .gtr => ND ((Op.bytesLess a b || decide (a = b)) = true) (next (.bool false)) (next (.bool true))
   | .geq => ND (Op.bytesLess a b = true) (next (.bool false)) (next (.bool true))
   | _ => False
  | _ => False
 | .bool a =>
  match y with
  | .bool b =>
   match kd with
   | .bool =>
    match op with
    | .eql => ND ((a == b) = true) (next (.bool true)) (next (.bool false))
    | .neq => ND ((a == b) = true) (next (.bool false)) (next (.bool true))
    | _ => False
   | _ => False
  | _ => False
 | .agg xs =>
  match y with
  | .agg ys =>
   match kd with
   | .struct _ (some ks) =>
    match allEqA ks xs ys with
    | some c =>
     match op with
     | .eql => ND (c = true) (next (.bool true)) (next (.bool false))
     | .neq => ND (c = true) (next (.bool false)) (next (.bool true))
     | _ => False
    | none => False
   | _ => False
  | _ => False
 | .nils =>
  match y with
  | .nils =>
   match kd with
   | .slice _ =>
    match op with
    | .eql => next (.bool true)
    | .neq => next (.bool false)
    | _ => False
   | _ => False
  | _ => False
 | .list _ l =>
  match y with
  | .nils =>
   match kd with
   | .slice _ =>
    match op with
    | .eql => NN l (next (.bool true)) (next (.bool false))
    | .neq => NN l (next (.bool false)) (next (.bool true))
    | _ => False
   | _ => False
  | _ => False
 | _ => False
def aopUn (op : UnOp) (x : AV) (next : AV → Prop) : Prop :=
 match op with
 | .not => match x with
  | .bool b => NB b (next (.bool false)) (next (.bool true))
  | _ => False
 | .neg => match x with
  | .int k n => NW k (0 - n) fun z => next (.int k z)
  | _ => False
 | .xor => match x with
  | .int k n => next (.int k (bitop .xor k (if k.signed then -1 else k.max) n))
  | _ => False
 | _ => False
def byteOf : AV → UInt8
 | .int _ n => UInt8.ofNat n.toNat
 | _ => 0
def isByte (a : AV) : Prop := ∃ n, a = .int .u8 n
def setCells (cs : List AV) (off : Nat) : List AV → List AV
 | [] => cs
 | x :: r => setCells (cs.set off x) (off + 1) r
/-- The parts of a composite of a struct. -/
noncomputable def fillA (fr : Fr) (fs : List (Nat × Sh)) (cs : List AV) (ps : List (Nat × Operand)) (k : List AV → Prop) : Prop :=
 List.rec (motive := fun _ => List AV → (List AV → Prop) → Prop) (fun cs k => k cs)
  (fun p _ ih cs k => match fs[p.1]? with
   | some (off, sh) => match isSh (ev fr p.2) sh && Nat.ble (off + sh.size) cs.length with
    | true => force (ev fr p.2) fun a => ih (setCells cs off a.cells) k
    | false => False
   | none => False) ps cs k
theorem fillA_cons (fr : Fr) (fs : List (Nat × Sh)) (cs : List AV) (i : Nat) (x : Operand) (rest : List (Nat × Operand)) (k : List AV → Prop) : fillA fr fs cs ((i, x) :: rest) k = match fs[i]? with
  | some (off, sh) => match isSh (ev fr x) sh && Nat.ble (off + sh.size) cs.length with
   | true => force (ev fr x) fun a => fillA fr fs (setCells cs off a.cells) rest k
   | false => False
  | none => False := rfl
/-- The parts of a composite of a slice. -/
noncomputable def fillS (fr : Fr) (sh : Sh) (es : List AV) (ps : List (Nat × Operand)) (k : List AV → Prop) : Prop :=
 List.rec (motive := fun _ => List AV → (List AV → Prop) → Prop) (fun es k => k es)
  (fun p _ ih es k => match isSh (ev fr p.2) sh && ((ev fr p.2).pure && Nat.ble (p.1 + 1) es.length) with
   | true => force (ev fr p.2) fun a => ih (es.set p.1 a) k
   | false => False) ps es k
theorem fillS_cons (fr : Fr) (sh : Sh) (es : List AV) (i : Nat) (x : Operand) (rest : List (Nat × Operand)) (k : List AV → Prop) : fillS fr sh es ((i, x) :: rest) k = match isSh (ev fr x) sh && ((ev fr x).pure && Nat.ble (i + 1) es.length) with
  | true => force (ev fr x) fun a => fillS fr sh (es.set i a) rest k
  | false => False := rfl
/-- What a slice value holds. -/
def elemsOf (H : List Blk) (sh : Sh) (a : AV) (k : List AV → Prop) : Prop :=
 match a with
 | .nils => k []
 | .list s l => match s.beq sh with
  | true => k l
  | false => False
 | .own id off len => match H[id]? with
  | some (.row kk s es) => match kk with
   | .box => False
   | _ => match s.beq sh with
    | true => NP (off + len ≤ es.length) (k ((es.drop off).take len))
    | false => False
  | _ => False
 | _ => False
inductive NApp (H : List Blk) (id off len : Nat) (kk : RK) (sh : Sh) (es xs : List AV) (bytes : Nat) (next : AV → List Blk → Prop) : Prop
 | endd (h0 : off = 0) (h1 : len = es.length) (hb : (es.length + xs.length) * bytes ≤ 2 ^ 46)
   (hn : next (.own H.length 0 (es ++ xs).length) (H.set id .dead ++ [.row kk sh (es ++ xs)]))
 | ro (h0 : off = 0) (h1 : len = es.length) (hb : (es.length + xs.length) * bytes ≤ 2 ^ 46) (hn : next (.list sh (es ++ xs)) (H.set id (.ro sh es)))
 | inpl (h1 : off + len + xs.length ≤ es.length)
   (hn : next (.own id off (len + xs.length)) (H.set id (.row kk sh (es.take (off + len) ++ (xs ++ es.drop (off + len + xs.length))))))
/-- xs are appended to the slice s. -/
def aopGo (H : List Blk) (sh : Sh) (bytes : Nat) (s : AV) (next : AV → List Blk → Prop) (xs : List AV) : Prop :=
 match s with
 | .nils => NP (xs.length * bytes ≤ 2 ^ 46) (next (.own H.length 0 xs.length) (H ++ [.row .vrow sh xs]))
 | .own id off len => match H[id]? with
  | some (.row kk s es) => match kk with
   | .box => False
   | _ => match s.beq sh with
    | true => NApp H id off len kk sh es xs bytes next
    | false => False
  | _ => False
 | _ => False
/-- New memory is owned, or a list that nobody writes. -/
inductive NMk (A B : Prop) : Prop
 | own (h : A)
 | lst (h : B)
/-- An answer that is an owned row may become a list at once. -/
inductive NFz (F : (AV → List Blk → Prop) → Prop) (next : AV → List Blk → Prop) : Prop
 | own (h : F next)
 | frz (h : F fun r H' => ∃ id off len kk sh es l, r = .own id off len ∧ H'[id]? = some (.row kk sh es) ∧ kk ≠ .box ∧ off + len ≤ es.length ∧ l = (es.drop off).take len ∧ next (.list sh l) (H'.set id (.ro sh es)))
def aopAppend {P : Program} (Γ : Tab P) (H : List Blk) (t0 t1 : TypeId) (s x : AV) (next : AV → List Blk → Prop) : Prop :=
 match tget Γ.tbl t0 with
 | some ⟨_, _, .slice e, _⟩ =>
  match tget Γ.tbl e with
  | some ⟨sh, bytes, _, zero⟩ =>
   match isSh zero sh && (Nat.ble 1 bytes && Nat.ble 1 sh.size) with
   | true =>
    match tget Γ.tbl t1 with
    | some ⟨_, _, .str, _⟩ => match x with
     | .str b => match sh with
      | .leaf => aopGo H sh bytes s next (b.map fun c => .int .u8 c.toNat)
      | _ => False
     | _ => False
    | some ⟨_, _, .int _, _⟩ => match x with
     | .int _ n => match zero.pure with
      | true => NP (0 ≤ n ∧ n * bytes ≤ 2 ^ 46) (aopGo H sh bytes s next (List.replicate n.toNat zero))
      | false => False
     | _ => False
    | some ⟨_, _, .slice _, _⟩ => elemsOf H sh x (aopGo H sh bytes s next)
    | _ => False
   | false => False
  | none => False
 | _ => False
def intA (a : AV) (k : Int → Prop) : Prop :=
 match a with
 | .int _ n => k n
 | _ => False
def foldMax : List AV → Option Int → Option Int
 | [], r => r
 | .int .i64 n :: l, none => foldMax l (some n)
 | .int .i64 n :: l, some m => foldMax l (some (max m n))
 | _, _ => none
def foldMin : List AV → Option Int → Option Int
 | [], r => r
 | .int .i64 n :: l, none => foldMin l (some n)
 | .int .i64 n :: l, some m => foldMin l (some (min m n))
 | _, _ => none
/-- A row that is cut so that an append goes elsewhere: a list, or a row of its own. -/
inductive NCut (A B : Prop) : Prop
 | lst (h : A)
 | own (h : B)
def allLeaf : List (Nat × Sh) → Bool
 | [] => true
 | (_, .leaf) :: r => allLeaf r
 | _ => false
/-- Is a key of a map the same? -/
def keyEq (ks : List Nat) (a b : AV) : Option Bool :=
 match a with
 | .agg xs => match b with
  | .agg ys => allEqA ks xs ys
  | _ => none
 | _ => none
def keyAgg (ks : List Nat) (a : AV) (k : AV → Prop) : Prop :=
 match a with
 | .agg cs => match Nat.beq cs.length ks.length with
  | true => k (.agg cs)
  | false => False
 | _ => False
/-- Where a key stands in a map. -/
inductive NFind (ks : List Nat) (es : List (AV × AV)) (key : AV) (T : Nat → AV → Prop) (E : Prop) : Prop
 | hit (i : Nat) (k v : AV) (h : es[i]? = some (k, v)) (he : keyEq ks key k = some true) (ha : ∀ j, j < i → ∀ (k' v' : AV), es[j]? = some (k', v') → keyEq ks key k' = some false) (hn : T i v)
 | miss (ha : ∀ (j : Nat) (k' v' : AV), es[j]? = some (k', v') → keyEq ks key k' = some false) (hn : E)
/-- What a call comes to. -/
def ACalls (P : Program) (f : FuncId) (args : List AV) (H : List Blk) (r : AV) (H' : List Blk) : Prop :=
 (∃ fn, P.funcs[f]? = some fn ∧ fn.body.isSome = true ∧ (fn.name == "runtime.NumGoroutine") = false) ∧
 ∀ (C : Ctx), C.H = H → HRep C → ∀ cargs : Array Value, cargs.size = args.length → (∀ (i : Nat) (h : i < args.length), RA C (cargs.getD i undef) args[i]) →
  Calls P f cargs C.w fun e w' => ∃ v C', e = .returned v ∧ C'.w = w' ∧ C'.H = H' ∧ Ext C C' ∧ HRep C' ∧ RT C' v r
inductive NCall (P : Program) (f : FuncId) (args : List AV) (H : List Blk) (next : AV → List Blk → Prop) : Prop
 | mk (r : AV) (H' : List Blk) (h : ACalls P f args H r H') (hn : next r H')
noncomputable def evArgs (fr : Fr) (l : List Operand) (k : List AV → Prop) : Prop :=
 List.rec (motive := fun _ => (List AV → Prop) → Prop) (fun k => k []) (fun x _ ih k => force (ev fr x) fun a => ih fun as => k (a :: as)) l k
noncomputable def evArgsT (fr : Fr) (H : List Blk) (l : List Operand) (k : List AV → Prop) : Prop :=
 List.rec (motive := fun _ => (List AV → Prop) → Prop) (fun k => k []) (fun x _ ih k => forceT H (ev fr x) fun a => ih fun as => k (a :: as)) l k
theorem evArgsT_cons (fr : Fr) (H : List Blk) (x : Operand) (r : List Operand) (k : List AV → Prop) : evArgsT fr H (x :: r) k = forceT H (ev fr x) fun a => evArgsT fr H r fun as => k (a :: as) := rfl
theorem evArgs_cons (fr : Fr) (x : Operand) (r : List Operand) (k : List AV → Prop) : evArgs fr (x :: r) k = force (ev fr x) fun a => evArgs fr r fun as => k (a :: as) := rfl
noncomputable def aop {P : Program} (Γ : Tab P) (fr : Fr) (op : Op) (H : List Blk) (next : AV → List Blk → Prop) : Prop :=
 match op with
 | .move x => force (ev fr x) fun a => next a H
 | .assign x => force (ev fr x) fun a => next a H
 | .pick c a b => match ev fr c with
  | .bool q => NB q (force (ev fr a) fun r => next r H) (force (ev fr b) fun r => next r H)
  | _ => False
 | .alloc t => match tget Γ.tbl t with
  | some ⟨sh, _, _, z⟩ => match isSh z sh && Nat.ble 1 sh.size with
   | true => next (.ptr H.length 0 0) (H ++ [.row .box sh [z]])
   | false => match sh with
    | .leaf => match z with
     | .tup l => match l with
      | [] => next (.ptr H.length 0 0) (H ++ [.row .box .leaf [.undef]])
      | _ => False
     | _ => False
    | _ => False
  | none => False
 | .box t x => match tget Γ.tbl t with
  | some ⟨sh, _, _, _⟩ => match isSh (ev fr x) sh && Nat.ble 1 sh.size with
   | true => force (ev fr x) fun a => next (.ptr H.length 0 0) (H ++ [.row .box sh [a]])
   | false => False
  | none => False
 | .build t parts => match tget Γ.tbl t with
  | some ⟨.agg _, _, .struct fs _, .agg z⟩ => fillA fr fs z parts.toList fun cs => next (.agg cs) H
  | some ⟨.agg _, _, .array n e, .agg z⟩ => match tget Γ.tbl e with
   | some ⟨shE, _, _, _⟩ => fillA fr ((List.range n).map fun i => (i * shE.size, shE)) z parts.toList fun cs => next (.agg cs) H
   | none => False
  | _ => False
 | .buildSlice t len parts => match tget Γ.tbl t with
  | some ⟨_, _, .slice e, _⟩ => match tget Γ.tbl e with
   | some ⟨sh, _, kd, z⟩ => match (isSh z sh && z.pure) && (Nat.ble (len * sh.size) (2 ^ 24) && Nat.ble 1 sh.size) with
    | true => match len with
     | 0 => match parts.toList with
      | [] => next (.own H.length 0 0) (H ++ [.row .vrow sh []])
      | _ => False
     | n + 1 => fillS fr sh (List.replicate (n + 1) z) parts.toList fun es => match kd with
      | .int .u8 => NMk (next (.own H.length 0 (n + 1)) (H ++ [.row .row sh es])) (next (.list sh es) H)
      | _ => next (.list sh es) H
    | false => False
   | none => False
  | _ => False
 | .load t a => match tget Γ.tbl t with
  | some ⟨t, _, _, _⟩ => match ev fr a with
   | .ptr id i o => match H[id]? with
    | some (.row .box sh [x]) => match i with
     | 0 => loadPart sh t x o fun a => next a H
     | _ => False
    | some (.row .row sh es) => NG es i fun x => loadPart sh t x o fun a => next a H
    | some (.row .vrow sh es) => NG es i fun x => loadPart sh t x o fun a => next a H
    | _ => False
   | .at sh x o => loadPart sh t x o fun a => next a H
   | _ => False
  | none => False
 | .store t a x => match tget Γ.tbl t with
  | some ⟨t, _, _, _⟩ => match ev fr a with
   | .ptr id i o => match isSh (ev fr x) t with
    | true => match H[id]? with
     | some (.row .box sh [e]) => match i with
      | 0 => force (ev fr x) fun y => storePart sh t e o y fun e' => next .undef (H.set id (.row .box sh [e']))
      | _ => False
     | some (.row .row sh es) => match (ev fr x).pure with
      | true => NG es i fun e => force (ev fr x) fun y => storePart sh t e o y fun e' => next .undef (H.set id (.row .row sh (es.set i e')))
      | false => False
     | some (.row .vrow sh es) => match (ev fr x).pure with
      | true => NG es i fun e => force (ev fr x) fun y => storePart sh t e o y fun e' => next .undef (H.set id (.row .vrow sh (es.set i e')))
      | false => False
     | _ => False
    | false => False
   | _ => False
  | none => False
 | .nilCheck x => match ev fr x with
  | .ptr id i o => match H[id]? with
   | some (.row _ _ _) => next (.ptr id i o) H
   | _ => False
  | .at sh x o => next (.at sh x o) H
  | _ => False
 | .binOp op t x y _ => match tget Γ.tbl t with
  | some ⟨_, _, k, _⟩ => aopBin op k (ev fr x) (ev fr y) fun r => next r H
  | none => False
 | .unOp op _ x => aopUn op (ev fr x) fun r => next r H
 | .convert src dst x => match tget Γ.tbl dst with
  | some ⟨_, _, .int k, _⟩ => match ev fr x with
   | .int _ n => match tget Γ.tbl src with
    | some ⟨_, _, .int _, _⟩ => NW k n fun z => next (.int k z) H
    | _ => False
   | _ => False
  | some ⟨_, _, .str, _⟩ => match tget Γ.tbl src with
   | some ⟨_, _, .str, _⟩ => match ev fr x with
    | .str s => next (.str s) H
    | _ => False
   | some ⟨_, _, .slice e, _⟩ => match tget Γ.tbl e with
    | some ⟨_, _, .int .u8, _⟩ => elemsOf H .leaf (thaw H (ev fr x)) fun l => NP (∀ a ∈ l, isByte a) (next (.str (l.map byteOf)) H)
    | _ => False
   | _ => False
  | some ⟨_, _, .slice e, _⟩ => match tget Γ.tbl src with
   | some ⟨_, _, .str, _⟩ => match tget Γ.tbl e with
    | some ⟨_, _, .int .u8, _⟩ => match ev fr x with
     | .str s => NP (s.length ≤ 2 ^ 46) (next (.own H.length 0 s.length) (H ++ [.row .row .leaf (s.map fun c => .int .u8 c.toNat)]))
     | _ => False
    | _ => False
   | some ⟨_, _, .slice _, _⟩ => match Nat.beq src dst with
    | true => match tget Γ.tbl e with
     | some ⟨_, _, .int .u8, _⟩ => match ev fr x with
      | .own id off len => match H[id]? with
       | some (.row .row _ _) => next (.own id off len) H
       | _ => False
      | _ => False
     | _ => False
    | false => False
   | _ => False
  | _ => False
 | .makeFunc fn first caps => match fn with
  | .func f => match first.toList with
   | [] => evArgs fr caps.toList fun as => match as.all AV.leafy with
    | true => next (.fn f as) H
    | false => False
   | _ => False
  | _ => False
 | .makeMap _ none => next (.map H.length) (H ++ [.map []])
 | .lookup t x ix ok => match tget Γ.tbl t with
  | some ⟨_, _, .map kt et, _⟩ => match tget Γ.tbl kt with
   | some ⟨_, _, .struct fs (some ks), _⟩ => match tget Γ.tbl et with
    | some ⟨sh, _, _, z⟩ => match ev fr x with
     | .map id => match isSh z sh && ((ev fr ix).pure && allLeaf fs) with
      | true => match H[id]? with
       | some (.map es) => match ok with
        | true => keyAgg ks (ev fr ix) fun key => NFind ks es key (fun _ v => force v fun v => next (.tup [v, .bool true]) H) (next (.tup [z, .bool false]) H)
        | false => keyAgg ks (ev fr ix) fun key => NFind ks es key (fun _ v => force v fun v => next v H) (next z H)
       | _ => False
      | false => False
     | _ => False
    | none => False
   | _ => False
  | _ => False
 | .mapUpdate t x ix y => match tget Γ.tbl t with
  | some ⟨_, _, .map kt _, _⟩ => match tget Γ.tbl kt with
   | some ⟨_, _, .struct fs (some ks), _⟩ => match ev fr x with
    | .map id => match (ev fr ix).pure && ((ev fr y).pure && allLeaf fs) with
     | true => match H[id]? with
      | some (.map es) => keyAgg ks (ev fr ix) fun key => force (ev fr y) fun v => NFind ks es key (fun i _ => next .undef (H.set id (.map (es.set i (key, v))))) (next .undef (H.set id (.map (es ++ [(key, v)]))))
      | _ => False
     | false => False
    | _ => False
   | _ => False
  | _ => False
 | .makeSlice t l c => match tget Γ.tbl t with
  | some ⟨_, _, .slice e, _⟩ => match tget Γ.tbl e with
   | some ⟨sh, bytes, _, z⟩ => match (isSh z sh && z.pure) && Nat.ble 1 sh.size with
    | true => intA (ev fr l) fun n => intA (ev fr c) fun m =>
      NP (m = n ∧ 0 ≤ n ∧ n * bytes ≤ 2 ^ 48 ∧ n ≤ 2 ^ 48) (NMk (next (.own H.length 0 n.toNat) (H ++ [.row .row sh (List.replicate n.toNat z)])) (next (.list sh (List.replicate n.toNat z)) H))
    | false => False
   | none => False
  | _ => False
 | .slice t x lo hi mx => match tget Γ.tbl t with
  | some ⟨_, _, k, _⟩ => match thaw H (ev fr x) with
   | .str s => match k, mx with
    | .str, none => match lo with
     | none => match hi with
      | none => next (.str s) H
      | some hi => intA (ev fr hi) fun h => NP (0 ≤ h ∧ h.toNat ≤ s.length) (next (.str (s.take h.toNat)) H)
     | some lo => match hi with
      | none => intA (ev fr lo) fun l => NP (0 ≤ l ∧ l.toNat ≤ s.length) (next (.str (s.drop l.toNat)) H)
      | some hi => intA (ev fr lo) fun l => intA (ev fr hi) fun h => NP (0 ≤ l ∧ l ≤ h ∧ h.toNat ≤ s.length) (next (.str ((s.take h.toNat).drop l.toNat)) H)
    | _, _ => False
   | .nils => match k, mx with
    | .slice e, none => match tget Γ.tbl e with
     | some _ => match lo with
      | none => match hi with
       | none => next .nils H
       | some hi => intA (ev fr hi) fun h => NP (h = 0) (next .nils H)
      | some lo => match hi with
       | none => intA (ev fr lo) fun l => NP (l = 0) (next .nils H)
       | some hi => intA (ev fr lo) fun l => intA (ev fr hi) fun h => NP (l = 0 ∧ h = 0) (next .nils H)
     | none => False
    | .slice e, some mx => match tget Γ.tbl e with
     | some _ => match lo with
      | none => match hi with
       | none => False
       | some hi => intA (ev fr hi) fun h => intA (ev fr mx) fun m => NP (h = 0 ∧ m = 0) (next .nils H)
      | some lo => match hi with
       | none => False
       | some hi => intA (ev fr lo) fun l => intA (ev fr hi) fun h => intA (ev fr mx) fun m => NP (l = 0 ∧ h = 0 ∧ m = 0) (next .nils H)
     | none => False
    | _, _ => False
   | .list sh s => match k with
    | .slice e => match tget Γ.tbl e with
     | some ⟨shE, _, _, _⟩ => match shE.beq sh with
      | true => match mx with
       | none => match lo with
        | none => match hi with
         | none => next (.list sh s) H
         | some hi => intA (ev fr hi) fun h => NP (0 ≤ h ∧ h.toNat ≤ s.length) (next (.list sh (s.take h.toNat)) H)
        | some lo => match hi with
         | none => intA (ev fr lo) fun l => NP (0 ≤ l ∧ l.toNat ≤ s.length) (next (.list sh (s.drop l.toNat)) H)
         | some hi => intA (ev fr lo) fun l => intA (ev fr hi) fun h => NP (0 ≤ l ∧ l ≤ h ∧ h.toNat ≤ s.length) (next (.list sh ((s.take h.toNat).drop l.toNat)) H)
       | some mx => match lo with
        | none => match hi with
         | none => False
         | some hi => intA (ev fr hi) fun h => intA (ev fr mx) fun m => NP (0 ≤ h ∧ h ≤ m ∧ m.toNat ≤ s.length) (next (.list sh (s.take h.toNat)) H)
        | some lo => match hi with
         | none => False
         | some hi => intA (ev fr lo) fun l => intA (ev fr hi) fun h => intA (ev fr mx) fun m => NP (0 ≤ l ∧ l ≤ h ∧ h ≤ m ∧ m.toNat ≤ s.length) (next (.list sh ((s.take h.toNat).drop l.toNat)) H)
      | false => False
     | none => False
    | _ => False
   | .own id off len => match k with
    | .slice e => match tget Γ.tbl e with
     | some ⟨shE, _, _, _⟩ => match H[id]? with
      | some (.row kk sh es) => match kk with
       | .box => False
       | _ => match shE.beq sh with
        | true => match mx with
         | none => match lo with
          | none => match hi with
           | none => next (.own id off len) H
           | some hi => intA (ev fr hi) fun h => NP (0 ≤ h ∧ off + h.toNat ≤ es.length) (next (.own id off h.toNat) H)
          | some lo => match hi with
           | none => intA (ev fr lo) fun l => NSl l len (next (.own id (off + l.toNat) (len - l.toNat)) H) (next (.list sh []) H)
           | some hi => intA (ev fr lo) fun l => intA (ev fr hi) fun h => NP (0 ≤ l ∧ l ≤ h ∧ off + h.toNat ≤ es.length) (NSl l (es.length - off) (next (.own id (off + l.toNat) (h.toNat - l.toNat)) H) (next (.list sh []) H))
         | some mx => match lo with
          | none => match hi with
           | none => False
           | some hi => intA (ev fr hi) fun h => intA (ev fr mx) fun m => NP (0 ≤ h ∧ h ≤ m ∧ off + m.toNat ≤ es.length)
             (NCut (next (.list sh ((es.drop off).take h.toNat)) (H.set id (.ro sh es))) (NP (off = 0 ∧ m = h) (next (.own H.length 0 h.toNat) (H.set id .dead ++ [.row kk sh (es.take h.toNat)]))))
          | some lo => match hi with
           | none => False
           | some hi => intA (ev fr lo) fun l => intA (ev fr hi) fun h => intA (ev fr mx) fun m => NP (0 ≤ l ∧ l ≤ h ∧ h ≤ m ∧ off + m.toNat ≤ es.length) (next .undef H)
        | false => False
      | _ => False
     | none => False
    | _ => False
   | _ => False
  | none => False
 | .fieldAddr t x f => match tget Γ.tbl t with
  | some ⟨_, _, .struct fs _, _⟩ => match fs[f]? with
   | some (off, sh) => match sh.size with
    | 0 => False
    | _ => match ev fr x with
     | .ptr id i o => match H[id]? with
      | some (.row _ _ _) => next (.ptr id i (o + off)) H
      | _ => False
     | .at sh x o => next (.at sh x (o + off)) H
     | _ => False
   | none => False
  | _ => False
 | .field t x f => match tget Γ.tbl t with
  | some ⟨_, _, .struct fs _, _⟩ => match fs[f]? with
   | some (off, sh) => match ev fr x with
    | .agg cs => match sh with
     | .leaf => match cs[off]? with
      | some a => force a fun r => next r H
      | none => False
     | .agg n => match Nat.ble (off + n) cs.length with
      | true => next (.agg ((cs.drop off).take n)) H
      | false => False
    | _ => False
   | none => False
  | _ => False
 | .indexAddr t x ix => match tget Γ.tbl t with
  | some ⟨_, _, .slice e, _⟩ => match tget Γ.tbl e with
   | some ⟨shE, _, _, _⟩ => match thaw H (ev fr x) with
    | .list sh l => match shE.beq sh with
     | true => intA (ev fr ix) fun i => NP (0 ≤ i) (NG l i.toNat fun a => next (.at sh a 0) H)
     | false => False
    | .own id off len => match H[id]? with
     | some (.row kk sh es) => match kk with
      | .box => False
      | _ => match shE.beq sh with
       | true => intA (ev fr ix) fun i => NP (0 ≤ i ∧ i < len ∧ off + len ≤ es.length) (next (.ptr id (off + i.toNat) 0) H)
       | false => False
     | _ => False
    | _ => False
   | none => False
  | some ⟨_, _, .array n e, _⟩ => match tget Γ.tbl e with
   | some ⟨shE, _, _, _⟩ => match ev fr x with
    | .ptr id i o => match H[id]? with
     | some (.row _ _ _) => intA (ev fr ix) fun j => NP (0 ≤ j ∧ j < n) (next (.ptr id i (o + j.toNat * shE.size)) H)
     | _ => False
    | _ => False
   | none => False
  | _ => False
 | .index t x ix => match tget Γ.tbl t with
  | some ⟨_, _, .str, _⟩ => match ev fr x with
   | .str s => intA (ev fr ix) fun i => NP (0 ≤ i ∧ i.toNat < s.length) (next (.int .u8 ((s.getD i.toNat 0).toNat)) H)
   | _ => False
  | _ => False
 | .extract x i => match ev fr x with
  | .tup vs => match vs[i]? with
   | some a => force a fun r => next r H
   | none => False
  | _ => False
 | .call c => match c.callee with
  | .value f => match ev fr f with
   | .fn g caps => evArgsT fr H c.args.toList fun as => match as.all AV.noTup with
    | true => NCall P g (as ++ caps) H next
    | false => False
   | _ => False
  | .builtin b => match b with
   | .len => match c.argTypes.toList, c.args.toList with
    | [t], [x] => match tget Γ.tbl t, thaw H (ev fr x) with
     | some ⟨_, _, .str, _⟩, .str s => next (.int .i64 s.length) H
     | some ⟨_, _, .slice _, _⟩, .nils => next (.int .i64 0) H
     | some ⟨_, _, .slice _, _⟩, .list _ l => next (.int .i64 l.length) H
     | some ⟨_, _, .slice _, _⟩, .own id _ len => match H[id]? with
      | some (.row _ _ _) => next (.int .i64 len) H
      | _ => False
     | _, _ => False
    | _, _ => False
   | .cap => match c.argTypes.toList, c.args.toList with
    | [t], [x] => match tget Γ.tbl t, ev fr x with
     | some ⟨_, _, .slice _, _⟩, .nils => next (.int .i64 0) H
     | _, _ => False
    | _, _ => False
   | .max => evArgs fr c.args.toList fun as => match foldMax as none with
    | some n => next (.int .i64 n) H
    | none => False
   | .min => evArgs fr c.args.toList fun as => match foldMin as none with
    | some n => next (.int .i64 n) H
    | none => False
   | .append => match c.argTypes.toList, c.args.toList with
    | [t0, t1], [s, x] => NFz (aopAppend Γ H t0 t1 (ev fr s) (thaw H (ev fr x))) next
    | _, _ => False
   | .clear => match c.argTypes.toList, c.args.toList with
    | [t], [x] => match tget Γ.tbl t with
     | some ⟨_, _, .slice e, _⟩ => match tget Γ.tbl e with
      | some ⟨sh, _, _, z⟩ => match ev fr x with
       | .nils => next .undef H
       | .list _ l => NP (l = []) (next .undef H)
       | .own id off len => match isSh z sh && z.pure with
        | true => match H[id]? with
         | some (.row kk s es) => match kk with
          | .box => False
          | _ => match s.beq sh with
           | true => next .undef (H.set id (.row kk sh (es.take off ++ (List.replicate len z ++ es.drop (off + len)))))
           | false => False
         | _ => False
        | false => False
       | _ => False
      | none => False
     | _ => False
    | _, _ => False
   | _ => False
  | _ => False
 | _ => False
/-- Is a guarded operation wanted? -/
def aWanted (ops : List Oper) (fr : Fr) (g : Option (Nat × Bool)) (T E : Prop) : Prop :=
 match g with
 | none => T
 | some (j, want) => match ops[j]? with
  | some o => match o.dst with
   | some d => match fr.get d with
    | .bool b => match want with
     | true => NB b T E
     | false => NB b E T
    | .tup vs => match vs with
     | [] => E
     | _ => False
    | _ => False
   | none => False
  | none => False
def dstOk (n : Nat) : Option Tmp → Bool
 | none => true
 | some d => Nat.blt d n
def numK (n : Nat) (k : Nat → Prop) : Prop :=
 Nat.rec (motive := fun _ => (Nat → Prop) → Prop) (fun k => k 0) (fun _ ih k => ih fun m => k (Nat.succ m)) n k
theorem numK_eq : ∀ (n : Nat) (k : Nat → Prop), numK n k = k n
 | 0, _ => rfl
 | n + 1, k => numK_eq n fun m => k (Nat.succ m)
def nrmH (H : List Blk) (k : List Blk → Prop) : Prop :=
 List.rec (motive := fun _ => (List Blk → Prop) → Prop) (fun k => k []) (fun b _ ih k => ih fun r => k (b :: r)) H k
theorem nrmH_eq : ∀ (H : List Blk) (k : List Blk → Prop), nrmH H k = k H
 | [], _ => rfl
 | b :: r, k => nrmH_eq r fun r => k (b :: r)
def nrmV (r : AV) (k : AV → Prop) : Prop := match r with
 | .ptr id i o => numK id fun id => k (.ptr id i o)
 | .own id off len => numK id fun id => k (.own id off len)
 | .map id => numK id fun id => k (.map id)
 | r => k r
theorem nrmV_eq (r : AV) (k : AV → Prop) : nrmV r k = k r := by
 unfold nrmV; split <;> first | exact numK_eq _ _ | rfl
def chg (op : Op) : Option Bool := match op with
 | .alloc .. => some true
 | .box .. => some true
 | .buildSlice .. => some true
 | .makeMap .. => some true
 | .makeSlice .. => some true
 | .store .. => some false
 | .mapUpdate .. => some false
 | .slice _ _ _ _ mx => match mx with
  | some _ => some true
  | none => none
 | .call c => match c.callee with
  | .builtin b => match b with
   | .append => some true
   | .clear => some false
   | _ => none
  | _ => some false
 | _ => none
def nrm (op : Op) (r : AV) (H : List Blk) (k : AV → List Blk → Prop) : Prop := match chg op with
 | none => k r H
 | some b => match b with
  | true => nrmV r fun r => nrmH H fun H => k r H
  | false => nrmH H fun H => k r H
theorem nrm_eq (op : Op) (r : AV) (H : List Blk) (k : AV → List Blk → Prop) : nrm op r H k = k r H := by
 unfold nrm
 split
 ·rfl
 ·split
  ·rw [nrmV_eq, nrmH_eq]
  ·rw [nrmH_eq]
noncomputable def awpOps {P : Program} (Γ : Tab P) (n : Nat) (ops l : List Oper) (fr : Fr) (H : List Blk) (k : Fr → List Blk → Prop) : Prop :=
 List.rec (motive := fun _ => Fr → List Blk → (Fr → List Blk → Prop) → Prop) (fun fr H k => k fr H)
  (fun o _ ih fr H k => match dstOk n o.dst with
   | true => aWanted ops fr o.guard (aop Γ fr o.op H fun r H' => nrm o.op r H' fun r H' => ih (fr.put o.dst r) H' k) (ih (fr.put o.dst (.tup [])) H k)
   | false => False) l fr H k
theorem awpOps_cons {P : Program} (Γ : Tab P) (n : Nat) (ops : List Oper) (o : Oper) (rest : List Oper) (fr : Fr) (H : List Blk) (k : Fr → List Blk → Prop) : awpOps Γ n ops (o :: rest) fr H k = match dstOk n o.dst with
  | true => aWanted ops fr o.guard (aop Γ fr o.op H fun r H' => nrm o.op r H' fun r H' => awpOps Γ n ops rest (fr.put o.dst r) H' k) (awpOps Γ n ops rest (fr.put o.dst (.tup [])) H k)
  | false => False := rfl
inductive AExit where
 | normal
 | exit (id : Nat)
 | ret
abbrev APost := AExit → Fr → List Blk → Prop
def idxIn : List Nat → Nat → Nat → Option Nat
 | [], _, _ => none
 | x :: r, id, j => match Nat.beq x id with
  | true => some j
  | false => idxIn r id (j + 1)
def pos (n0 : Nat) (S : List Nat) (id : Nat) : Option Nat :=
 match Nat.blt id n0 with
 | true => some id
 | false => idxIn S id n0
inductive NFrz (es : List AV) (off len : Nat) (next : List AV → Prop) : Prop
 | mk (l : List AV) (h : off + len ≤ es.length) (hl : l = (es.drop off).take len) (hn : next l)
def cv1 (n0 : Nat) (S : List Nat) (H : List Blk) (a : AV) (k : AV → Prop) : Prop :=
 match a with
 | .own id off len => match pos n0 S id with
  | some j => k (.own j off len)
  | none => match H[id]? with
   | some (.row kk sh es) => match kk with
    | .box => False
    | _ => NFrz es off len fun l => k (.list sh l)
   | some (.ro sh es) => k (.list sh ((es.drop off).take len))
   | _ => k .undef
 | .ptr id i o => match pos n0 S id with
  | some j => k (.ptr j i o)
  | none => k .undef
 | .map id => match pos n0 S id with
  | some j => k (.map j)
  | none => k .undef
 | .fn _ _ => False
 | .agg _ => False
 | .tup _ => False
 | a => force a k
noncomputable def cvs1 (n0 : Nat) (S : List Nat) (H : List Blk) (l : List AV) (k : List AV → Prop) : Prop :=
 List.rec (motive := fun _ => (List AV → Prop) → Prop) (fun k => k []) (fun a _ ih k => cv1 n0 S H a fun a' => ih fun r' => k (a' :: r')) l k
theorem cvs1_cons (n0 : Nat) (S : List Nat) (H : List Blk) (a : AV) (r : List AV) (k : List AV → Prop) : cvs1 n0 S H (a :: r) k = cv1 n0 S H a fun a' => cvs1 n0 S H r fun r' => k (a' :: r') := rfl
noncomputable def cvA (n0 : Nat) (S : List Nat) (H : List Blk) (a : AV) (k : AV → Prop) : Prop :=
 match a with
 | .agg cs => cvs1 n0 S H cs fun cs' => k (.agg cs')
 | .fn f caps => cvs1 n0 S H caps fun cs' => k (.fn f cs')
 | .tup _ => False
 | a => cv1 n0 S H a k
noncomputable def cvsA (n0 : Nat) (S : List Nat) (H : List Blk) (l : List AV) (k : List AV → Prop) : Prop :=
 List.rec (motive := fun _ => (List AV → Prop) → Prop) (fun k => k []) (fun a _ ih k => cvA n0 S H a fun a' => ih fun r' => k (a' :: r')) l k
theorem cvsA_cons (n0 : Nat) (S : List Nat) (H : List Blk) (a : AV) (r : List AV) (k : List AV → Prop) : cvsA n0 S H (a :: r) k = cvA n0 S H a fun a' => cvsA n0 S H r fun r' => k (a' :: r') := rfl
noncomputable def cvBlk (n0 : Nat) (S : List Nat) (H : List Blk) (b : Blk) (k : Blk → Prop) : Prop :=
 match b with
 | .row .box sh [x] => cvA n0 S H x fun x' => k (.row .box sh [x'])
 | .row .box _ _ => False
 | b => k b
noncomputable def cvH (n0 : Nat) (S : List Nat) (H : List Blk) (l : List Nat) (k : List Blk → Prop) : Prop :=
 List.rec (motive := fun _ => (List Blk → Prop) → Prop) (fun k => k []) (fun id _ ih k => match H[id]? with
  | some b => cvBlk n0 S H b fun b' => ih fun r' => k (b' :: r')
  | none => False) l k
theorem cvH_cons (n0 : Nat) (S : List Nat) (H : List Blk) (id : Nat) (r : List Nat) (k : List Blk → Prop) : cvH n0 S H (id :: r) k = match H[id]? with
  | some b => cvBlk n0 S H b fun b' => cvH n0 S H r fun r' => k (b' :: r')
  | none => False := rfl
def nodupB : List Nat → Bool
 | [] => true
 | x :: r => match idxIn r x 0 with
  | none => nodupB r
  | some _ => false
def allGe (n0 : Nat) : List Nat → Bool
 | [] => true
 | x :: r => Nat.ble n0 x && allGe n0 r
/-- Blocks that read as others do, too. -/
inductive BlkLe : Blk → Blk → Prop
 | same (b : Blk) : BlkLe b b
 | row (k : RK) (sh : Sh) {es es' : List AV} (h : LeAs es es') : BlkLe (.row k sh es) (.row k sh es')
 | kill (b : Blk) : BlkLe b .dead
inductive BlksLe : List Blk → List Blk → Prop
 | nil : BlksLe [] []
 | cons {b b' : Blk} {l l' : List Blk} (h : BlkLe b b') (hs : BlksLe l l') : BlksLe (b :: l) (b' :: l')
theorem BlksLe.refl : ∀ l : List Blk, BlksLe l l
 | [] => .nil
 | b :: l => .cons (.same b) (BlksLe.refl l)
/-- The slots' values and the owned blocks, laid anew. -/
inductive Canon (n0 : Nat) (fr : Fr) (H : List Blk) (keep : List Nat) (K : List AV → List Blk → Prop) : Prop
 | mk (S : List Nat) (hS : (nodupB S && allGe n0 S) = true)
   (h : cvsA n0 S H (keep.map fr.get) fun vs => cvH n0 S H (List.range n0 ++ S) fun H' => K vs H')
 | wk (S : List Nat) (vs' : List AV) (hS : (nodupB S && allGe n0 S) = true)
   (h : cvsA n0 S H (keep.map fr.get) fun vs => cvH n0 S H (List.range n0 ++ S) fun H' => LeAs vs vs' ∧ K vs' H')
 | wb (S : List Nat) (vs' : List AV) (H'' : List Blk) (hS : (nodupB S && allGe n0 S) = true)
   (h : cvsA n0 S H (keep.map fr.get) fun vs => cvH n0 S H (List.range n0 ++ S) fun H' => LeAs vs vs' ∧ BlksLe H' H'' ∧ K vs' H'')
def mkFr : List Nat → List AV → Fr
 | k :: r, v :: q => (k, v) :: mkFr r q
 | _, _ => []
/-- Slots that hold nil slices, as empty owned ones. -/
noncomputable def adopt (ad : List (Nat × Sh)) (fr : Fr) (H : List Blk) (k : Fr → List Blk → Prop) : Prop :=
 List.rec (motive := fun _ => Fr → List Blk → (Fr → List Blk → Prop) → Prop) (fun fr H k => k fr H)
  (fun p _ ih fr H k => match fr.get p.1 with
   | .nils => match p.2.size with
    | 0 => False
    | _ => ih ((p.1, .own H.length 0 0) :: fr) (H ++ [.row .vrow p.2 []]) k
   | _ => False) ad fr H k
theorem adopt_cons (t : Nat) (sh : Sh) (r : List (Nat × Sh)) (fr : Fr) (H : List Blk) (k : Fr → List Blk → Prop) : adopt ((t, sh) :: r) fr H k = match fr.get t with
  | .nils => match sh.size with
   | 0 => False
   | _ => adopt r ((t, .own H.length 0 0) :: fr) (H ++ [.row .vrow sh []]) k
  | _ => False := rfl
/-- Boxes' cells that hold nil slices, as empty owned ones. -/
inductive AdoptB : List Blk → List Blk → Prop
 | nil (H : List Blk) : AdoptB H H
 | cons {H H' : List Blk} {shB sh : Sh} {cs : List AV} (id o : Nat) (hid : H[id]? = some (.row .box shB [.agg cs])) (hcs : cs[o]? = some .nils) (hp : 0 < sh.size)
   (h : AdoptB (H.set id (.row .box shB [.agg (cs.set o (.own H.length 0 0))]) ++ [.row .vrow sh []]) H') : AdoptB H H'
/-- The loop's knot. -/
inductive NLoop (n n0 : Nat) (body : APost → Fr → List Blk → Prop) (Q : APost) (fr : Fr) (H : List Blk) : Prop
 | mk (ad : List (Nat × Sh)) (keep : List Nat) (Inv : Nat → List AV → List Blk → Prop) (hk : keep.all (Nat.blt · n) = true)
   (h0 : adopt ad fr H fun fr H => Canon n0 fr H keep fun vs H' => ∃ m, Inv m vs H')
   (hr : ∀ m vs H, Inv m vs H → body (fun e fr' H' => match e with
    | .normal => Canon n0 fr' H' keep fun vs' H'' => ∃ m', m' < m ∧ Inv m' vs' H''
    | e => Q e fr' H') (mkFr keep vs) H)
 | rl (ad : List (Nat × Sh)) (keep keepX : List Nat) (Inv : Nat → List AV → List Blk → Prop) (hk : keep.all (Nat.blt · n) = true)
   (h0 : adopt ad fr H fun fr H => Canon n0 fr H keep fun vs H' => ∃ m, Inv m vs H')
   (hr : ∀ m vs H, Inv m vs H → body (fun e fr' H' => match e with
    | .normal => Canon n0 fr' H' keep fun vs' H'' => ∃ m', m' < m ∧ Inv m' vs' H''
    | .exit id => Canon n0 fr' H' keepX fun vs' H'' => Q (.exit id) (mkFr keepX vs') H''
    | .ret => Q .ret fr' H') (mkFr keep vs) H)
 | bm {H1 : List Blk} (hb : AdoptB H H1) (ad : List (Nat × Sh)) (keep : List Nat) (Inv : Nat → List AV → List Blk → Prop) (hk : keep.all (Nat.blt · n) = true)
   (h0 : adopt ad fr H1 fun fr H => Canon n0 fr H keep fun vs H' => ∃ m, Inv m vs H')
   (hr : ∀ m vs H, Inv m vs H → body (fun e fr' H' => match e with
    | .normal => Canon n0 fr' H' keep fun vs' H'' => ∃ m', m' < m ∧ Inv m' vs' H''
    | e => Q e fr' H') (mkFr keep vs) H)
 | bl {H1 : List Blk} (hb : AdoptB H H1) (ad : List (Nat × Sh)) (keep keepX : List Nat) (Inv : Nat → List AV → List Blk → Prop) (hk : keep.all (Nat.blt · n) = true)
   (h0 : adopt ad fr H1 fun fr H => Canon n0 fr H keep fun vs H' => ∃ m, Inv m vs H')
   (hr : ∀ m vs H, Inv m vs H → body (fun e fr' H' => match e with
    | .normal => Canon n0 fr' H' keep fun vs' H'' => ∃ m', m' < m ∧ Inv m' vs' H''
    | .exit id => Canon n0 fr' H' keepX fun vs' H'' => Q (.exit id) (mkFr keepX vs') H''
    | .ret => Q .ret fr' H') (mkFr keep vs) H)
noncomputable def awp {P : Program} (Γ : Tab P) (n n0 : Nat) (dr : List Oper → Fr → List Blk → (Fr → List Blk → Prop) → Prop) (c : Code) (Q : APost) (fr : Fr) (H : List Blk) : Prop :=
 Code.rec (motive := fun _ => APost → Fr → List Blk → Prop)
  (fun Q fr H => Q .normal fr H)
  (fun _ ops draw Q fr H => match draw with
   | false => awpOps Γ n ops.toList ops.toList fr H (Q .normal)
   | true => dr ops.toList fr H (Q .normal))
  (fun _ _ iha ihb Q fr H => iha (fun e fr' H' => match e with | .normal => ihb Q fr' H' | e => Q e fr' H') fr H)
  (fun c _ _ iha ihb Q fr H => match ev fr c with
   | .bool q => NB q (iha Q fr H) (ihb Q fr H)
   | _ => False)
  (fun id _ ih Q fr H => ih (fun e fr' H' => match e with
   | .exit j => match Nat.beq j id with
    | true => Q .normal fr' H'
    | false => Q (.exit j) fr' H'
   | e => Q e fr' H') fr H)
  (fun _ ih Q fr H => NLoop n n0 ih Q fr H)
  (fun _ _ _ _ _ _ _ _ _ => False)
  (fun id Q fr H => Q (.exit id) fr H)
  (fun _ _ _ _ _ => False)
  (fun _ Q fr H => Q .normal fr H)
  (fun _ _ _ _ => False)
  (fun Q fr H => Q .ret fr H)
  (fun _ _ _ _ => False) c Q fr H
theorem awp_cond {P : Program} (Γ : Tab P) (n n0 : Nat) (dr : List Oper → Fr → List Blk → (Fr → List Blk → Prop) → Prop) (c : Operand) (a b : Code) (Q : APost) (fr : Fr) (H : List Blk) : awp Γ n n0 dr (.cond c a b) Q fr H = match ev fr c with
  | .bool q => NB q (awp Γ n n0 dr a Q fr H) (awp Γ n n0 dr b Q fr H)
  | _ => False := rfl
/-- What the result slots hold. -/
noncomputable def ares {P : Program} (Γ : Tab P) (fr : Fr) (H : List Blk) (l : List ResultVar) (k : List AV → Prop) : Prop :=
 List.rec (motive := fun _ => (List AV → Prop) → Prop) (fun k => k [])
  (fun x _ ih k => match x with
   | .tmp t => force (fr.get t) fun a => ih fun as => k (a :: as)
   | .cell p t => match tget Γ.tbl t with
    | some ⟨t, _, _, _⟩ => match fr.get p with
     | .ptr id i o => match H[id]? with
      | some (.row .box sh [x]) => match i with
       | 0 => loadPart sh t x o fun a => ih fun as => k (a :: as)
       | _ => False
      | _ => False
     | _ => False
    | none => False) l k
theorem ares_tmp {P : Program} (Γ : Tab P) (fr : Fr) (H : List Blk) (t : Tmp) (r : List ResultVar) (k : List AV → Prop) : ares Γ fr H (.tmp t :: r) k = force (fr.get t) fun a => ares Γ fr H r fun as => k (a :: as) := rfl
theorem ares_cell {P : Program} (Γ : Tab P) (fr : Fr) (H : List Blk) (p : Tmp) (t : TypeId) (r : List ResultVar) (k : List AV → Prop) : ares Γ fr H (.cell p t :: r) k = match tget Γ.tbl t with
  | some ⟨t, _, _, _⟩ => match fr.get p with
   | .ptr id i o => match H[id]? with
    | some (.row .box sh [x]) => match i with
     | 0 => loadPart sh t x o fun a => ares Γ fr H r fun as => k (a :: as)
     | _ => False
    | _ => False
   | _ => False
  | none => False := rfl
def mkRes : List AV → AV
 | [a] => a
 | as => .tup as
/-- What a body owes: its results, and the owned blocks that are kept. -/
inductive NRet {P : Program} (Γ : Tab P) (n0 : Nat) (rs : List ResultVar) (r : AV) (H' : List Blk) (fr : Fr) (H : List Blk) : Prop
 | mk (S : List Nat) (hS : (nodupB S && allGe n0 S) = true)
   (h : ares Γ fr H rs fun as => cvsA n0 S H as fun vs => cvH n0 S H (List.range n0 ++ S) fun H'' => LeA (mkRes vs) r ∧ H' = H'')
 | ad (ad : List (Nat × Sh)) (S : List Nat) (hS : (nodupB S && allGe n0 S) = true)
   (h : adopt ad fr H fun fr H => ares Γ fr H rs fun as => cvsA n0 S H as fun vs => cvH n0 S H (List.range n0 ++ S) fun H'' => LeA (mkRes vs) r ∧ H' = H'')
def bodyQ {P : Program} (Γ : Tab P) (n0 : Nat) (rs : List ResultVar) (r : AV) (H' : List Blk) : APost := fun e fr H =>
 match e with
 | .exit _ => False
 | _ => NRet Γ n0 rs r H' fr H
def argFr : Nat → List AV → Fr
 | _, [] => []
 | i, a :: r => (i, a) :: argFr (i + 1) r
end Go.Bv
namespace Go.Bv
open Go
theorem RL.nodead {C : Ctx} {v : Value} {a : AV} (h : RL C v a) (hs : a.sh ≠ none) : v.oneCell' = true := by
 cases a <;> simp only [RL] at h <;> first
  | (simp [AV.sh] at hs; done)
  | exact h.1
  | exact h.elim
  | (cases h <;> rfl)
theorem RA.shOk {C : Ctx} {v : Value} {a : AV} {sh : Sh} (h : RA C v a) (hs : isSh a sh = true) : okSh v sh := by
 unfold isSh at hs
 cases ha : a.sh with
 | none => simp [ha] at hs
 | some s =>
  simp only [ha] at hs
  cases a with
  | agg cs =>
   obtain ⟨vs, rfl, hsz, _, ho⟩ := h
   simp [AV.sh] at ha; subst ha
   cases sh with
   | leaf => simp [Sh.beq] at hs
   | agg n => simp [Sh.beq] at hs; exact ⟨vs, rfl, by omega, ho⟩
  | tup vs => simp [AV.sh] at ha
  | undef => simp [AV.sh] at ha
  | fn f caps =>
   simp [AV.sh] at ha; subst ha
   cases sh with
   | leaf => obtain ⟨cv, rfl, _⟩ := h; rfl
   | agg n => simp [Sh.beq] at hs
  | _ =>
   simp [AV.sh] at ha; subst ha
   cases sh with
   | agg n => simp [Sh.beq] at hs
   | leaf => simp only [RA, R1] at h; exact RL.nodead h (by simp [AV.sh])
theorem RT.RA {C : Ctx} {v : Value} {a : AV} (h : RT C v a) (ha : ∀ vs, a ≠ .tup vs) : RA C v a := by
 cases a <;> first | exact h | exact absurd rfl (ha _)
theorem isSh.notTup {a : AV} {sh : Sh} (hs : isSh a sh = true) : ∀ vs, a ≠ .tup vs := by
 rintro vs rfl; simp [isSh, AV.sh] at hs
theorem RL.pure {C : Ctx} {v : Value} {a : AV} (h : R1 C v a) (hp : a.pure1 = true) : RP C.w C.G v a := by
 cases a <;> simp [AV.pure1] at hp <;> exact h
theorem RA.pure {C : Ctx} {v : Value} {a : AV} (h : RA C v a) (hp : a.pure = true) : RP C.w C.G v a := by
 cases a with
 | agg cs =>
  obtain ⟨vs, rfl, hsz, hc, ho⟩ := h
  refine .agg vs cs hsz (fun i hi => ?_) ho
  simp only [AV.pure, List.all_eq_true] at hp
  exact RL.pure (hc i hi) (hp _ (List.getElem_mem hi))
 | _ => simp only [AV.pure] at hp; first | (simp [AV.pure1] at hp; done) | exact h
theorem RP.RT {C : Ctx} {v : Value} {a : AV} (r : RP C.w C.G v a) : RT C v a := by
 have h := r.RA
 cases a <;> first | exact h | (cases r; done)
theorem RP_avOf {w : World} {G : Nat → Prop} (v : Value) (h : avOf v ≠ .undef) : RP w G v (avOf v) := by
 unfold avOf at h ⊢
 split <;> first | constructor | (simp at h; done)
theorem avOf_nt (v : Value) : (∃ x, avOf v = x ∧ (∀ vs, x ≠ .agg vs) ∧ (∀ vs, x ≠ .tup vs) ∧ ∀ f c, x ≠ .fn f c) := by
 refine ⟨_, rfl, ?_⟩
 unfold avOf
 split <;> simp
theorem RL_avOf {C : Ctx} (v : Value) : RL C v (avOf v) := by
 by_cases h : avOf v = .undef
 ·rw [h]; trivial
 ·have := RP_avOf (w := C.w) (G := C.G) v h
  unfold avOf at this h ⊢
  split <;> first | exact this | trivial
theorem R1_avOf {C : Ctx} (v : Value) : R1 C v (avOf v) := by
 have h := RL_avOf (C := C) v
 obtain ⟨x, hx, _, _, h3⟩ := avOf_nt v
 rw [hx] at h ⊢
 cases x <;> first | exact h | exact absurd rfl (h3 _ _)
theorem RA_avOf {C : Ctx} (v : Value) : RA C v (avOf v) := by
 have h := R1_avOf (C := C) v
 obtain ⟨x, hx, h1, _, _⟩ := avOf_nt v
 rw [hx] at h ⊢
 cases x <;> first | exact h | exact absurd rfl (h1 _)
theorem RA_avOfA {C : Ctx} (v : Value) : RA C v (avOfA v) := by
 cases v with
 | agg cs =>
  simp only [avOfA]
  split
  ·rename_i ho
   refine ⟨cs, rfl, by simp, fun i hi => ?_, fun i x hx => ?_⟩
   ·simp at hi
    simp only [List.getElem_map, Array.getD_eq_getD_getElem?, Array.getElem?_eq_getElem hi, Option.getD_some, Array.getElem_toList]
    exact R1_avOf _
   ·rw [List.all_eq_true] at ho
    exact ho x (by rw [Array.mem_toList_iff]; exact Array.mem_of_getElem? hx)
  ·trivial
 | _ => exact RA_avOf _
theorem RT_avOfA {C : Ctx} (v : Value) : RT C v (avOfA v) := by
 have h := RA_avOfA (C := C) v
 have : ∀ vs, avOfA v ≠ .tup vs := by
  intro vs
  cases v <;> simp only [avOfA] <;> first | (split <;> simp; done) | (obtain ⟨x, hx, _, h2, _⟩ := avOf_nt _; rw [hx]; exact h2 _)
 generalize avOfA v = x at *
 cases x <;> first | exact h | exact absurd rfl (this _)
/-- A row that nobody writes any more reads as a list. -/
theorem RL.thaw {C : Ctx} {v : Value} {a : AV} (h : RL C v a) : RL C v (thaw C.H a) := by
 cases a with
 | own id off len =>
  simp only [Bv.thaw]
  split
  ·rename_i sh es he
   exact (h.2.2.2.2 sh es he).2
  ·exact h
 | _ => exact h
theorem R1.thaw {C : Ctx} {v : Value} {a : AV} (h : R1 C v a) : R1 C v (thaw C.H a) := by
 cases a with
 | own id off len =>
  have := RL.thaw (a := .own id off len) h
  simp only [Bv.thaw] at this ⊢
  split at this <;> exact this
 | _ => exact h
theorem RA.thaw {C : Ctx} {v : Value} {a : AV} (h : RA C v a) : RA C v (thaw C.H a) := by
 cases a with
 | own id off len =>
  have := RL.thaw (a := .own id off len) h
  simp only [Bv.thaw] at this ⊢
  split at this <;> exact this
 | _ => exact h
theorem RT.thaw {C : Ctx} {v : Value} {a : AV} (h : RT C v a) : RT C v (thaw C.H a) := by
 cases a with
 | own id off len =>
  have := RL.thaw (a := .own id off len) h
  simp only [Bv.thaw] at this ⊢
  split at this <;> exact this
 | _ => exact h
def FrOk (C : Ctx) (a : Act) (fr : Fr) : Prop := ∀ t, RT C (a.tmps.getD t undef) (fr.get t)
theorem FrOk.ext {C C' : Ctx} (h : Ext C C') {a : Act} {fr : Fr} (hf : FrOk C a fr) : FrOk C' a fr := fun t => h.RT (hf t)
theorem FrOk.ev {C : Ctx} {a : Act} {fr : Fr} (hf : FrOk C a fr) (x : Operand) : RT C (a.eval x) (ev fr x) := by
 cases x with
 | tmp t => exact hf t
 | const v => exact RT_avOfA v
 | global g => trivial
 | func f => exact ⟨#[], rfl, rfl, fun i h => by simp at h⟩
theorem FrOk.evT {C : Ctx} {a : Act} {fr : Fr} (hf : FrOk C a fr) (x : Operand) : RT C (a.eval x) (thaw C.H (Bv.ev fr x)) := (hf.ev x).thaw
theorem FrOk.put {C : Ctx} {a : Act} {fr : Fr} (hf : FrOk C a fr) {d : Option Tmp} {v : Value} {r : AV} (hv : RT C v r) (hd : dstOk a.tmps.size d = true) : FrOk C (a.put d v) (fr.put d r) := by
 cases d with
 | none => exact hf
 | some d =>
  intro t
  simp only [dstOk, Nat.blt_eq] at hd
  simp only [Act.put, Fr.put, Fr.get]
  by_cases h : d = t
  ·subst h; simp [hd]; exact hv
  ·have hb : Nat.beq d t = false := by cases hq : Nat.beq d t with
    | false => rfl
    | true => exact absurd (Nat.eq_of_beq_eq_true hq) h
   rw [hb]
   simp only [cond_false, Array.getD_eq_getD_getElem?, Array.getElem?_setIfInBounds_ne h]
   have := hf t
   rwa [Array.getD_eq_getD_getElem?] at this
theorem run_loadCells_rep {P : Program} {w : World} {b o : Nat} {cs : Array Value} (h : ∀ j, j < cs.size → w.cell? ⟨b, o + j, none⟩ = cs[j]?) :
  (loadCells ⟨b, o, none⟩ cs.size).run P w = .ok cs w := by
 have := run_loadCells_list (P := P) (w := w) ⟨b, o, none⟩ cs.toList fun j v hj => by
  rw [Array.getElem?_toList] at hj
  have hlt := (Array.getElem?_eq_some_iff.1 hj).1
  unfold Addr.add
  split
  ·rename_i h0; subst h0; have := h 0 hlt; rw [hj] at this; simpa using this
  ·have := h j hlt; rw [hj] at this; simpa using this
 simpa using this
def writeAt (c : Array Value) (o : Nat) : List Value → Array Value
 | [] => c
 | v :: r => writeAt (c.setIfInBounds o v) (o + 1) r
theorem writeAt_size : ∀ (l : List Value) (c : Array Value) (o : Nat), (writeAt c o l).size = c.size
 | [], _, _ => rfl
 | v :: r, c, o => by simp [writeAt, writeAt_size r]
theorem writeAt_get : ∀ (l : List Value) (c : Array Value) (o i : Nat), o + l.length ≤ c.size →
  (writeAt c o l)[i]? = if o ≤ i ∧ i < o + l.length then l[i - o]? else c[i]?
 | [], c, o, i, _ => by simp [writeAt]; intro h1 h2; omega
 | v :: r, c, o, i, h => by
  simp only [List.length_cons] at h
  rw [writeAt, writeAt_get r _ _ _ (by simp; omega)]
  simp only [List.length_cons]
  by_cases h1 : o + 1 ≤ i ∧ i < o + 1 + r.length
  ·rw [if_pos h1, if_pos (by omega)]
   obtain ⟨k, rfl⟩ : ∃ k, i = o + 1 + k := ⟨i - (o + 1), by omega⟩
   rw [show o + 1 + k - (o + 1) = k by omega, show o + 1 + k - o = k + 1 by omega]
   simp
  ·rw [if_neg h1]
   by_cases h2 : i = o
   ·subst h2
    rw [if_pos (by omega)]
    simp only [Nat.sub_self, List.getElem?_cons_zero]
    rw [Array.getElem?_setIfInBounds_self_of_lt (by omega)]
   ·rw [if_neg (by omega), Array.getElem?_setIfInBounds_ne (by omega)]
def World.write (w : World) (b : Nat) (c : Array Value) (T : TypeId) (fr : Nat × Nat) : World := { w with heap := w.heap.setIfInBounds b (.cells c T fr) }
theorem fzNot {n : Nat} {fr : Nat × Nat} (h : fr.1 = fr.2 ∨ n ≤ fr.1) : ∀ o, o < n → ¬ (fr.1 ≤ o ∧ o < fr.2) := fun o ho hh => by omega
theorem run_storeCells_rep {P : Program} {b o : Nat} {T : TypeId} {fr : Nat × Nat} : ∀ (vs : List Value) (i : Nat) (c : Array Value) (w : World), w.heap[b]? = some (.cells c T fr) → o + i + vs.length ≤ c.size →
  (∀ k, k < c.size → ¬ (fr.1 ≤ k ∧ k < fr.2)) → (∀ v ∈ vs, v.oneCell' = true) →
  (storeCells ⟨b, o, none⟩ vs i).run P w = .ok () (World.write w b (writeAt c (o + i) vs) T fr)
 | [], i, c, w, hb, _, _, _ => by
  have hw : World.write w b c T fr = w := by
   unfold World.write
   have : w.heap.setIfInBounds b (.cells c T fr) = w.heap := by
    apply Array.ext
    ·simp
    ·intro j h1 h2
     by_cases hj : b = j
     ·subst hj
      rw [Array.getElem?_eq_getElem h2] at hb
      simp at hb
      simp [hb]
     ·rw [Array.getElem_setIfInBounds_ne _ hj]
   rw [this]
  simp [storeCells, writeAt, hw]
 | v :: r, i, c, w, hb, hle, hfr, hone => by
  simp only [List.length_cons] at hle
  have hadd : Addr.add ⟨b, o, none⟩ i = ⟨b, o + i, none⟩ := by
   unfold Addr.add; split
   ·rename_i h; subst h; simp
   ·rfl
  have hlt : b < w.heap.size := (Array.getElem?_eq_some_iff.1 hb).1
  have hcell : w.cell? ⟨b, o + i, none⟩ = some (c[o + i]'(by omega)) := by
   simp only [World.cell?, hb, Option.isSome_none, Bool.false_eq_true, if_false]
   exact Array.getElem?_eq_getElem (by omega)
  have hfz : w.frozen? ⟨b, o + i, none⟩ = false := by
   simp only [World.frozen?, hb]
   have := hfr (o + i) (by omega)
   simp only [Bool.and_eq_false_iff, decide_eq_false_iff_not]
   by_cases h1 : fr.1 ≤ o + i
   ·exact .inr fun h2 => this ⟨h1, h2⟩
   ·exact .inl h1
  have hset : w.setCell ⟨b, o + i, none⟩ v = World.write w b (c.setIfInBounds (o + i) v) T fr := by
   unfold World.setCell World.write
   congr 1
   apply Array.ext
   ·simp
   ·intro j h1 h2
    simp only [Array.getElem_modify]
    by_cases hj : b = j
    ·subst hj
     rw [Array.getElem?_eq_getElem hlt] at hb
     simp at hb
     simp [hb]
    ·rw [Array.getElem_setIfInBounds_ne (by simpa using h1) hj]; simp [hj]
  have ih := run_storeCells_rep (P := P) (b := b) (o := o) (T := T) (fr := fr) r (i + 1) (c.setIfInBounds (o + i) v) (World.write w b (c.setIfInBounds (o + i) v) T fr)
   (by simp [World.write, hlt]) (by simp; omega) (by simpa using hfr) (fun u hu => hone u (by simp [hu]))
  rw [storeCells, Sem.run_bind, hadd, run_store P w _ v .plain (hone v (by simp)), hcell]
  simp only [hfz, Bool.false_eq_true, if_false, Result.andThen_ok, hset]
  rw [ih, writeAt, show o + (i + 1) = o + i + 1 by omega]
  congr 1
  simp [World.write]
theorem add_ext {C : Ctx} (hC : HRep C) (w' : World) (hpre : ∀ b, b < C.w.heap.size → w'.heap[b]? = C.w.heap[b]?) (hsz : C.w.heap.size ≤ w'.heap.size)
  (hos : w'.os = C.w.os) (ht : w'.tape = C.w.tape) (ho : w'.output = C.w.output) (b0 : Nat) (hb0 : C.w.heap.size ≤ b0) (k : Blk) :
  Ext C ⟨w', C.F, fun i => if i = C.H.length then b0 else C.β i, C.H ++ [k]⟩ where
 F := rfl
 os := hos
 tape := ht
 output := ho
 size := hsz
 len := by simp
 beta := fun id hid => by simp [Nat.ne_of_lt hid]
 keep := fun b hb _ => hpre b hb
 fresh := fun id m hid hm _ => by
  have := (List.getElem?_eq_some_iff.1 hm).1
  simp at this
  have : id = C.H.length := by omega
  simp [this, hb0]
 rows := fun id kk sh es hid he => by
  dsimp only at he
  rw [List.getElem?_append_left hid] at he
  refine ⟨es, he, rfl, fun hl => ?_⟩
  obtain ⟨c, T, fr, hc, _⟩ := hC.row id kk sh es he hl
  have hlt := (Array.getElem?_eq_some_iff.1 hc).1
  exact ⟨c, T, fr, c, T, fr, hc, by rw [← hc]; exact hpre _ hlt, rfl⟩
 maps := fun id es hid he => by
  dsimp only at he
  rw [List.getElem?_append_left hid] at he
  exact ⟨es, he⟩
 ros := fun id sh es hid he => by
  dsimp only at he
  rw [List.getElem?_append_left hid] at he
  exact .inl he
theorem HRep.lt {C : Ctx} (hC : HRep C) {id : Nat} {k : Blk} (hk : C.H[id]? = some k) (hl : k.live) : C.β id < C.w.heap.size := by
 cases k with
 | dead => exact hl.elim
 | ro sh es => exact hl.elim
 | row kk sh es => obtain ⟨c, T, fr, hc, _⟩ := hC.row id kk sh es hk hl; exact (Array.getElem?_eq_some_iff.1 hc).1
 | map es => obtain ⟨me, cl, hc, _⟩ := hC.map id es hk; exact (Array.getElem?_eq_some_iff.1 hc).1
/-- What a row's block holds. -/
def RowAt (C : Ctx) (b : Nat) (k : RK) (sh : Sh) (es : List AV) : Prop :=
 ∃ c T fr, C.w.heap[b]? = some (.cells c T fr) ∧ (fr.1 = fr.2 ∨ c.size ≤ fr.1) ∧ es.length * sh.size ≤ c.size ∧
   (∀ (o : Nat) (x : Value), c[o]? = some x → x.oneCell' = true) ∧
   ∀ (i : Nat) (h : i < es.length), ∃ v, RA C v es[i] ∧ (k ≠ .box → RP C.w C.G v es[i]) ∧ okSh v sh ∧ ∀ j, j < sh.size → c[i * sh.size + j]? = v.cells[j]?
def MapAt (C : Ctx) (b : Nat) (es : List (AV × AV)) : Prop :=
 ∃ (me : Array MapEntry) (clock : Nat), C.w.heap[b]? = some (.map me clock) ∧ me.size = es.length ∧
   ∀ (i : Nat) (h : i < es.length), ∃ m, me[i]? = some m ∧ RP C.w C.G m.key es[i].1 ∧ RP C.w C.G m.val es[i].2
theorem RowAt.ext {C C' : Ctx} (h : Ext C C') {b : Nat} {k : RK} {sh : Sh} {es : List AV} (hb : C'.w.heap[b]? = C.w.heap[b]?) (r : RowAt C b k sh es) : RowAt C' b k sh es := by
 obtain ⟨c, T, fr, hc, h1, h2, h3, h4⟩ := r
 refine ⟨c, T, fr, hb.trans hc, h1, h2, h3, fun i hi => ?_⟩
 obtain ⟨v, hv, hp, hs, hcell⟩ := h4 i hi
 exact ⟨v, h.RA hv, fun hk => h.RP (hp hk), hs, hcell⟩
theorem MapAt.ext {C C' : Ctx} (h : Ext C C') {b : Nat} {es : List (AV × AV)} (hb : C'.w.heap[b]? = C.w.heap[b]?) (r : MapAt C b es) : MapAt C' b es := by
 obtain ⟨me, cl, hc, h1, h2⟩ := r
 refine ⟨me, cl, hb.trans hc, h1, fun i hi => ?_⟩
 obtain ⟨m, hm, hk, hv⟩ := h2 i hi
 exact ⟨m, hm, h.RP hk, h.RP hv⟩
theorem add_hrep {C : Ctx} (hC : HRep C) {w' : World} (hpre : ∀ b, b < C.w.heap.size → w'.heap[b]? = C.w.heap[b]?) (hsz : C.w.heap.size ≤ w'.heap.size)
  (hos : w'.os = C.w.os) (ht : w'.tape = C.w.tape) (ho : w'.output = C.w.output) {b0 : Nat} (hb0 : C.w.heap.size ≤ b0) {k : Blk}
  (hs : ∀ kk sh es, k = .row kk sh es → 0 < sh.size)
  (hrow : ∀ kk sh es, k = .row kk sh es → k.live → RowAt ⟨w', C.F, fun i => if i = C.H.length then b0 else C.β i, C.H ++ [k]⟩ b0 kk sh es)
  (hmap : ∀ es, k = .map es → MapAt ⟨w', C.F, fun i => if i = C.H.length then b0 else C.β i, C.H ++ [k]⟩ b0 es) :
  HRep ⟨w', C.F, fun i => if i = C.H.length then b0 else C.β i, C.H ++ [k]⟩ := by
 have hE := add_ext hC w' hpre hsz hos ht ho b0 hb0 k
 have old : ∀ {id : Nat} {m : Blk}, (C.H ++ [k])[id]? = some m → id ≠ C.H.length → C.H[id]? = some m ∧ id < C.H.length := by
  intro id m hm hne
  have hl := (List.getElem?_eq_some_iff.1 hm).1
  simp at hl
  have hlt : id < C.H.length := by omega
  rw [List.getElem?_append_left hlt] at hm
  exact ⟨hm, hlt⟩
 have new : ∀ {m : Blk}, (C.H ++ [k])[C.H.length]? = some m → m = k := by
  intro m hm; simp at hm; exact hm.symm
 refine ⟨?_, ?_, ?_, ?_, ?_, ?_⟩
 ·intro i j m n hi hj hlm hln hb
  dsimp only at *
  by_cases e1 : i = C.H.length <;> by_cases e2 : j = C.H.length
  ·omega
  ·obtain ⟨hj', _⟩ := old hj e2
   have := hC.lt hj' hln
   simp [e1, e2] at hb
   omega
  ·obtain ⟨hi', _⟩ := old hi e1
   have := hC.lt hi' hlm
   simp [e1, e2] at hb
   omega
  ·obtain ⟨hi', _⟩ := old hi e1
   obtain ⟨hj', _⟩ := old hj e2
   simp [e1, e2] at hb
   exact hC.inj i j m n hi' hj' hlm hln hb
 ·intro i m hi hl hF
  dsimp only at *
  by_cases e1 : i = C.H.length
  ·simp [e1] at hF
   have := hC.Flt _ hF
   omega
  ·obtain ⟨hi', _⟩ := old hi e1
   simp [e1] at hF
   exact hC.notF i m hi' hl hF
 ·intro b hb
  exact Nat.lt_of_lt_of_le (hC.Flt b hb) hsz
 ·intro id kk sh es he
  dsimp only at he
  by_cases e1 : id = C.H.length
  ·subst e1; exact hs kk sh es (new he).symm
  ·exact hC.sz id kk sh es (old he e1).1
 ·intro id kk sh es he hl
  dsimp only at he
  by_cases e1 : id = C.H.length
  ·subst e1
   have hk := new he
   have := hrow kk sh es hk.symm (hk ▸ hl)
   simpa [RowAt] using this
  ·obtain ⟨he', hlt⟩ := old he e1
   have hr : RowAt C (C.β id) kk sh es := hC.row id kk sh es he' hl
   have := hr.ext hE (hpre _ (hC.lt he' hl))
   simpa [RowAt, e1] using this
 ·intro id es he
  dsimp only at he
  by_cases e1 : id = C.H.length
  ·subst e1
   have hk := new he
   have := hmap es hk.symm
   simpa [MapAt] using this
  ·obtain ⟨he', hlt⟩ := old he e1
   have hr : MapAt C (C.β id) es := hC.map id es he'
   have := hr.ext hE (hpre _ (hC.lt he' trivial))
   simpa [MapAt, e1] using this
theorem kill_ext {C : Ctx} (hC : HRep C) (id : Nat) : Ext C { C with H := C.H.set id .dead } where
 F := rfl
 os := rfl
 tape := rfl
 output := rfl
 size := Nat.le_refl _
 len := by simp
 beta := fun _ _ => rfl
 keep := fun _ _ _ => rfl
 fresh := fun i k hi hk _ => by
  have := (List.getElem?_eq_some_iff.1 hk).1
  simp at this
  omega
 rows := fun i kk sh es _ he => by
  dsimp only at he
  rw [List.getElem?_set] at he
  split at he
  ·split at he <;> simp at he
  ·refine ⟨es, he, rfl, fun hl => ?_⟩
   obtain ⟨c, T, fr, hc, _⟩ := hC.row i kk sh es he hl
   exact ⟨c, T, fr, c, T, fr, hc, hc, rfl⟩
 maps := fun i es _ he => by
  dsimp only at he
  rw [List.getElem?_set] at he
  split at he
  ·split at he <;> simp at he
  ·exact ⟨es, he⟩
 ros := fun i sh es _ he => by
  dsimp only at he
  rw [List.getElem?_set] at he
  split at he
  ·split at he <;> simp at he
  ·exact .inl he
theorem kill_hrep {C : Ctx} (hC : HRep C) (id : Nat) : HRep { C with H := C.H.set id .dead } := by
 have hE := kill_ext hC id
 have old : ∀ {i : Nat} {m : Blk}, (C.H.set id .dead)[i]? = some m → m ≠ .dead → C.H[i]? = some m := by
  intro i m hm hne
  rw [List.getElem?_set] at hm
  split at hm
  ·split at hm <;> simp at hm; exact absurd hm.symm hne
  ·exact hm
 have nd : ∀ {m : Blk}, m.live → m ≠ .dead := by rintro m hl rfl; exact hl.elim
 refine ⟨?_, ?_, ?_, ?_, ?_, ?_⟩
 ·intro i j m n hi hj hlm hln hb
  exact hC.inj i j m n (old hi (nd hlm)) (old hj (nd hln)) hlm hln hb
 ·intro i m hi hl
  exact hC.notF i m (old hi (nd hl)) hl
 ·exact hC.Flt
 ·intro i kk sh es he
  exact hC.sz i kk sh es (old he (by simp))
 ·intro i kk sh es he hl
  have hr : RowAt C (C.β i) kk sh es := hC.row i kk sh es (old he (by simp)) hl
  exact hr.ext hE rfl
 ·intro i es he
  have hr : MapAt C (C.β i) es := hC.map i es (old he (by simp))
  exact hr.ext hE rfl
theorem row_ro {C : Ctx} (hC : HRep C) {G : Nat → Prop} (hG : ∀ b, C.G b → G b) {id : Nat} {k : RK} {sh : Sh} {es : List AV} (he : C.H[id]? = some (.row k sh es)) (hk : k ≠ .box) (hl : (Blk.row k sh es).live) (hg : G (C.β id)) : RoAt C.w G (C.β id) sh es := by
 refine ⟨hg, fun i hi => ?_⟩
 obtain ⟨c, T, fr, hc, _, hsz, _, hrow⟩ := hC.row id k sh es he hl
 obtain ⟨v, _, hv, hs, hcell⟩ := hrow i hi
 refine ⟨v, (hv hk).mono fun b hb => ⟨hG b hb, rfl⟩, hs, fun j hj => ?_⟩
 simp only [World.cell?, hc, Option.isSome_none, Bool.false_eq_true, if_false]
 exact hcell j hj
theorem ro_ext {C : Ctx} (hC : HRep C) {id : Nat} {k : RK} {sh : Sh} {es : List AV} (hid : C.H[id]? = some (.row k sh es)) (hk : k ≠ .box) : Ext C { C with H := C.H.set id (.ro sh es) } where
 F := rfl
 os := rfl
 tape := rfl
 output := rfl
 size := Nat.le_refl _
 len := by simp
 beta := fun _ _ => rfl
 keep := fun _ _ _ => rfl
 fresh := fun i k hi hk _ => by
  have := (List.getElem?_eq_some_iff.1 hk).1
  simp at this
  omega
 rows := fun i kk sh es _ he => by
  dsimp only at he
  rw [List.getElem?_set] at he
  split at he
  ·split at he <;> simp at he
  ·refine ⟨es, he, rfl, fun hl => ?_⟩
   obtain ⟨c, T, fr, hc, _⟩ := hC.row i kk sh es he hl
   exact ⟨c, T, fr, c, T, fr, hc, hc, rfl⟩
 maps := fun i es _ he => by
  dsimp only at he
  rw [List.getElem?_set] at he
  split at he
  ·split at he <;> simp at he
  ·exact ⟨es, he⟩
 ros := fun i sh2 es2 hlt he => by
  dsimp only at he
  rw [List.getElem?_set] at he
  split at he
  ·rename_i e; subst e
   rw [if_pos hlt] at he
   ·simp only [Option.some.injEq, Blk.ro.injEq] at he
    obtain ⟨rfl, rfl⟩ := he
    refine .inr ⟨k, es, hid, rfl, fun hl => row_ro hC (fun b hb => ?_) hid hk hl ?_⟩
    ·refine ⟨hb.1, hb.2.1, fun ⟨j, m, hm, hlm, e⟩ => hb.2.2 ?_⟩
     dsimp only at hm e
     rw [List.getElem?_set] at hm
     split at hm
     ·(try split at hm) <;> first | (have := Option.some.inj hm; subst this; exact hlm.elim) | simp at hm
     ·exact ⟨j, m, hm, hlm, e⟩
    ·refine ⟨hC.lt hid hl, hC.notF _ _ hid hl, fun ⟨j, m, hm, hlm, e⟩ => ?_⟩
     dsimp only at hm e
     rw [List.getElem?_set] at hm
     split at hm
     ·(try split at hm) <;> first | (have := Option.some.inj hm; subst this; exact hlm.elim) | simp at hm
     ·rename_i hne
      exact hne (hC.inj j _ _ _ hm hid hlm hl e).symm
  ·exact .inl he
theorem ro_hrep {C : Ctx} (hC : HRep C) {id : Nat} {k : RK} {sh : Sh} {es : List AV} (hid : C.H[id]? = some (.row k sh es)) (hk : k ≠ .box) : HRep { C with H := C.H.set id (.ro sh es) } := by
 have hE := ro_ext hC hid hk
 have old : ∀ {i : Nat} {m : Blk}, (C.H.set id (.ro sh es))[i]? = some m → m ≠ .ro sh es → C.H[i]? = some m := by
  intro i m hm hne
  rw [List.getElem?_set] at hm
  split at hm
  ·split at hm <;> simp at hm; exact absurd hm.symm hne
  ·exact hm
 have nd : ∀ {m : Blk}, m.live → m ≠ .ro sh es := by rintro m hl rfl; exact hl.elim
 refine ⟨?_, ?_, ?_, ?_, ?_, ?_⟩
 ·intro i j m n hi hj hlm hln hb
  exact hC.inj i j m n (old hi (nd hlm)) (old hj (nd hln)) hlm hln hb
 ·intro i m hi hl
  exact hC.notF i m (old hi (nd hl)) hl
 ·exact hC.Flt
 ·intro i kk sh2 es2 he
  exact hC.sz i kk sh2 es2 (old he (by simp))
 ·intro i kk sh2 es2 he hl
  have hr : RowAt C (C.β i) kk sh2 es2 := hC.row i kk sh2 es2 (old he (by simp)) hl
  exact hr.ext hE rfl
 ·intro i es2 he
  have hr : MapAt C (C.β i) es2 := hC.map i es2 (old he (by simp))
  exact hr.ext hE rfl
theorem set_ext0 {C : Ctx} (hC : HRep C) {id : Nat} {k : RK} {sh : Sh} {es es' : List AV} (hid : C.H[id]? = some (.row k sh es)) (hl : (Blk.row k sh es).live) (hlen : es'.length = es.length)
  {c c' : Array Value} {T0 T : TypeId} {fr0 fr : Nat × Nat} (hc : C.w.heap[C.β id]? = some (.cells c T0 fr0)) (hsz : c'.size = c.size) :
  Ext C { C with w := World.write C.w (C.β id) c' T fr, H := C.H.set id (.row k sh es') } where
 F := rfl
 os := rfl
 tape := rfl
 output := rfl
 size := by simp [World.write]
 len := by simp
 beta := fun _ _ => rfl
 keep := fun b hb ho => by
  have : C.β id ≠ b := fun e => ho ⟨id, _, hid, hl, e⟩
  simp [World.write, Array.getElem?_setIfInBounds_ne this]
 fresh := fun i m hi hm _ => by
  have := (List.getElem?_eq_some_iff.1 hm).1
  simp at this
  omega
 rows := fun i kk s es2 _ he => by
  dsimp only at he
  rw [List.getElem?_set] at he
  have hlt := (Array.getElem?_eq_some_iff.1 hc).1
  split at he
  ·rename_i e; subst e
   rw [if_pos (List.getElem?_eq_some_iff.1 hid).1] at he
   cases he
   exact ⟨es, hid, hlen.symm, fun _ => ⟨c, T0, fr0, c', T, fr, hc, by simp [World.write, hlt], hsz⟩⟩
  ·rename_i e
   refine ⟨es2, he, rfl, fun hl2 => ?_⟩
   obtain ⟨c2, T2, fr2, hc2, _⟩ := hC.row i kk s es2 he hl2
   have : C.β id ≠ C.β i := fun h => e (hC.inj id i _ _ hid he hl hl2 h)
   exact ⟨c2, T2, fr2, c2, T2, fr2, hc2, by simp [World.write, Array.getElem?_setIfInBounds_ne this, hc2], rfl⟩
 maps := fun i es2 _ he => by
  dsimp only at he
  rw [List.getElem?_set] at he
  split at he
  ·split at he <;> simp at he
  ·exact ⟨es2, he⟩
 ros := fun i sh2 es2 _ he => by
  dsimp only at he
  rw [List.getElem?_set] at he
  split at he
  ·split at he <;> simp at he
  ·exact .inl he
theorem set_hrep0 {C : Ctx} (hC : HRep C) {id : Nat} {k : RK} {sh : Sh} {es es' : List AV} (hid : C.H[id]? = some (.row k sh es)) (hl : (Blk.row k sh es).live) (hlen : es'.length = es.length)
  {c c' : Array Value} {T0 T : TypeId} {fr0 fr : Nat × Nat} (hc : C.w.heap[C.β id]? = some (.cells c T0 fr0)) (hsz : c'.size = c.size)
  (hrow : RowAt { C with w := World.write C.w (C.β id) c' T fr, H := C.H.set id (.row k sh es') } (C.β id) k sh es') :
  HRep { C with w := World.write C.w (C.β id) c' T fr, H := C.H.set id (.row k sh es') } := by
 have hE := set_ext0 (T := T) (fr := fr) hC hid hl hlen hc hsz
 have hidl := (List.getElem?_eq_some_iff.1 hid).1
 have old : ∀ {i : Nat} {m : Blk}, (C.H.set id (.row k sh es'))[i]? = some m → (i = id ∧ m = .row k sh es') ∨ (i ≠ id ∧ C.H[i]? = some m) := by
  intro i m hm
  rw [List.getElem?_set] at hm
  split at hm
  ·rename_i e; subst e
   have hm := Option.some.inj hm
   exact .inl ⟨rfl, hm.symm⟩
  ·rename_i e; exact .inr ⟨fun h => e h.symm, hm⟩
 have hl' : (Blk.row k sh es').live := Blk.live_row hlen.symm hl
 have oldl : ∀ {i : Nat} {m : Blk}, (C.H.set id (.row k sh es'))[i]? = some m → m.live → ∃ m0, C.H[i]? = some m0 ∧ m0.live := by
  intro i m hm hlm
  rcases old hm with ⟨rfl, rfl⟩ | ⟨_, h⟩
  ·exact ⟨_, hid, hl⟩
  ·exact ⟨m, h, hlm⟩
 refine ⟨?_, ?_, ?_, ?_, ?_, ?_⟩
 ·intro i j m n hi hj hlm hln hb
  obtain ⟨m0, h1, h2⟩ := oldl hi hlm
  obtain ⟨n0, h3, h4⟩ := oldl hj hln
  exact hC.inj i j m0 n0 h1 h3 h2 h4 hb
 ·intro i m hi hlm
  obtain ⟨m0, h1, h2⟩ := oldl hi hlm
  exact hC.notF i m0 h1 h2
 ·intro b hb
  simpa [World.write] using hC.Flt b hb
 ·intro i kk s es2 he
  rcases old he with ⟨rfl, h⟩ | ⟨_, h⟩
  ·cases h; exact hC.sz i _ _ _ hid
  ·exact hC.sz i kk s es2 h
 ·intro i kk s es2 he hl2
  rcases old he with ⟨rfl, h⟩ | ⟨e, h⟩
  ·cases h; exact hrow
  ·have hr : RowAt C (C.β i) kk s es2 := hC.row i kk s es2 h hl2
   have : C.β id ≠ C.β i := fun hb => e (hC.inj id i _ _ hid h hl hl2 hb).symm
   exact hr.ext hE (by simp [World.write, Array.getElem?_setIfInBounds_ne this])
 ·intro i es2 he
  rcases old he with ⟨rfl, h⟩ | ⟨e, h⟩
  ·cases h
  ·have hr : MapAt C (C.β i) es2 := hC.map i es2 h
   have : C.β id ≠ C.β i := fun hb => e (hC.inj id i _ _ hid h hl trivial hb).symm
   exact hr.ext hE (by simp [World.write, Array.getElem?_setIfInBounds_ne this])
theorem set_ext {C : Ctx} (hC : HRep C) {id : Nat} {k : RK} {sh : Sh} {es es' : List AV} (hid : C.H[id]? = some (.row k sh es)) (hl : (Blk.row k sh es).live) (hlen : es'.length = es.length)
  {c c' : Array Value} {T : TypeId} {fr : Nat × Nat} (hc : C.w.heap[C.β id]? = some (.cells c T fr)) (hsz : c'.size = c.size) :
  Ext C { C with w := World.write C.w (C.β id) c' T fr, H := C.H.set id (.row k sh es') } := set_ext0 hC hid hl hlen hc hsz
theorem set_hrep {C : Ctx} (hC : HRep C) {id : Nat} {k : RK} {sh : Sh} {es es' : List AV} (hid : C.H[id]? = some (.row k sh es)) (hl : (Blk.row k sh es).live) (hlen : es'.length = es.length)
  {c c' : Array Value} {T : TypeId} {fr : Nat × Nat} (hc : C.w.heap[C.β id]? = some (.cells c T fr)) (hsz : c'.size = c.size)
  (hrow : RowAt { C with w := World.write C.w (C.β id) c' T fr, H := C.H.set id (.row k sh es') } (C.β id) k sh es') :
  HRep { C with w := World.write C.w (C.β id) c' T fr, H := C.H.set id (.row k sh es') } := set_hrep0 hC hid hl hlen hc hsz hrow
end Go.Bv
namespace Go.Bv
open Go
/-- The operation comes to the value r and leaves H'. -/
def Yield (P : Program) (o : Oper) (a : Act) (C : Ctx) (r : AV) (H' : List Blk) : Prop :=
 ∀ (K : Act → World → Prop) (Q : Exit → Act → World → Prop),
  (∀ v C', C'.H = H' → Ext C C' → HRep C' → RT C' v r → K (a.put o.dst v) C'.w) → o.wp P a C.w K Q
theorem Yield.of {P : Program} {o : Oper} {a : Act} {C C' : Ctx} {r : AV} {v : Value} (h : (execOp a.eval o).run P C.w = .ok (.value v) C'.w)
  (hE : Ext C C') (hC' : HRep C') (hv : RT C' v r) : Yield P o a C r C'.H := by
 intro K Q hk
 unfold Oper.wp
 rw [h]
 exact hk v C' rfl hE hC' hv
theorem Yield.same {P : Program} {o : Oper} {a : Act} {C : Ctx} (hC : HRep C) {r : AV} {v : Value} (h : (execOp a.eval o).run P C.w = .ok (.value v) C.w)
  (hv : RT C v r) : Yield P o a C r C.H := Yield.of h (Ext.refl C hC) hC hv
theorem Yield.skip {P : Program} {o : Oper} {a : Act} {C C' : Ctx} (h : (execOp a.eval o).run P C.w = .ok .skip C'.w)
  (hE : Ext C C') (hC' : HRep C') : Yield P o a C .undef C'.H := by
 intro K Q hk
 unfold Oper.wp
 rw [h]
 exact hk undef C' rfl hE hC' trivial
def Snd (P : Program) (o : Oper) (a : Act) (C : Ctx) (next : AV → List Blk → Prop) : Prop := ∃ r H', next r H' ∧ Yield P o a C r H'
theorem ND.elim {p : Prop} [Decidable p] {T E : Prop} (h : ND p T E) : (decide p = true ∧ T) ∨ (decide p = false ∧ E) := by
 cases h with
 | yes h hn => exact .inl ⟨decide_eq_true h, hn⟩
 | no h hn => exact .inr ⟨decide_eq_false h, hn⟩
theorem ND.elimb {b : Bool} {T E : Prop} (h : ND (b = true) T E) : (b = true ∧ T) ∨ (b = false ∧ E) := by
 cases h with
 | yes h hn => exact .inl ⟨h, hn⟩
 | no h hn => exact .inr ⟨by simpa using h, hn⟩
theorem NB.elim {b : Bool} {T E : Prop} (h : NB b T E) : (b = true ∧ T) ∨ (b = false ∧ E) := by
 cases b
 ·exact .inr ⟨rfl, h⟩
 ·exact .inl ⟨rfl, h⟩
section
variable {C : Ctx} {v : Value}
theorem RT.bool {b : Bool} (h : RT C v (.bool b)) : v = .bool b := by
 have h : RP C.w C.G v (.bool b) := h
 cases h; rfl
theorem RT.int {k : IntKind} {n : Int} (h : RT C v (.int k n)) : v = .int k n := by
 have h : RP C.w C.G v (.int k n) := h
 cases h; rfl
theorem RT.str {s : List UInt8} (h : RT C v (.str s)) : ∃ b : ByteArray, v = .string b ∧ b.data.toList = s := by
 have h : RP C.w C.G v (.str s) := h
 cases h with | str b => exact ⟨b, rfl, rfl⟩
theorem RT.nils (h : RT C v .nils) : v = .slice none 0 0 := by
 have h : RP C.w C.G v .nils := h
 cases h; rfl
theorem RT.ptr {id i o : Nat} (h : RT C v (.ptr id i o)) {k : RK} {sh : Sh} {es : List AV} (hid : C.H[id]? = some (.row k sh es)) : v = .pointer (some ⟨C.β id, i * sh.size + o, none⟩) := h.2.2 k sh es hid
theorem RT.agg {cs : List AV} (h : RT C v (.agg cs)) : ∃ vs : Array Value, v = .agg vs ∧ vs.size = cs.length ∧ (∀ (i : Nat) (h : i < cs.length), R1 C (vs.getD i undef) cs[i]) ∧
   ∀ (i : Nat) (x : Value), vs[i]? = some x → x.oneCell' = true := h
theorem RP.int' {w : World} {G : Nat → Prop} {k : IntKind} {n : Int} (h : RP w G v (.int k n)) : v = .int k n := by cases h; rfl
theorem R1.RT {a : AV} (h : R1 C v a) (ha : ∀ cs, a ≠ .agg cs) (ht : ∀ vs, a ≠ .tup vs) : Bv.RT C v a := by
 cases a <;> first | exact h | exact absurd rfl (ha _) | exact absurd rfl (ht _)
theorem R1.nag {a : AV} (h : Bv.R1 C v a) : (∀ cs, a ≠ .agg cs) ∧ ∀ vs, a ≠ .tup vs := by
 cases a <;> simp
 ·exact h
 ·exact h
theorem R1.RT' {a : AV} (h : R1 C v a) : Bv.RT C v a := h.RT h.nag.1 h.nag.2
end
section
variable {P : Program} (w : World)
theorem run_und {t : TypeId} {d : TypeDesc} (h : P.underlying t = some d) : (underlying t).run P w = .ok d w := by simp [underlying, h]
theorem run_ti {t : TypeId} {i : TypeInfo} (h : P.info? t = some i) : (typeInfo t).run P w = .ok i w := by simp [typeInfo, h]
theorem run_sz {t : TypeId} {i : TypeInfo} (h : P.info? t = some i) : (sizeOf t).run P w = .ok i.size w := by simp [sizeOf, run_ti w h]
theorem run_zero {t : TypeId} {i : TypeInfo} {z : Value} (h : P.info? t = some i) (hz : i.zero = some z) : (zeroValue t).run P w = .ok z w := by simp [zeroValue, run_ti w h, hz]
theorem run_isAgg {t : TypeId} {d : TypeDesc} (h : P.underlying t = some d) : (isAgg t).run P w = .ok (isAggD d) w := by
 simp only [isAgg, Sem.run_bind, run_und w h, Result.andThen_ok]
 cases d <;> rfl
end
structure TInfo (P : Program) (t : TypeId) (ti : TI) (i : TypeInfo) (d : TypeDesc) : Prop where
 info : P.info? t = some i
 und : P.underlying t = some d
 sz : i.size = ti.sh.size
 sh : ti.sh = if isAggD d then .agg i.size else .leaf
 bytes : i.bytes = ti.bytes
 kind : ti.kind = kindOf P t d
 zero : ti.zero = match i.zero with | some z => avOfZ z | none => .undef
 small : ti.bytes ≤ 4294967296
theorem Tab.info {P : Program} (Γ : Tab P) {t : TypeId} {ti : TI} (h : tget Γ.tbl t = some ti) : ∃ i d, TInfo P t ti i d := by
 have h1 := Γ.ok t ti (tget_eq _ _ _ h)
 unfold tiOf at h1
 split at h1
 ·rename_i i d hi hd
  split at h1
  ·simp at h1
  ·rename_i hn
   simp only [Option.some.injEq] at h1
   subst h1
   simp only [Bool.or_eq_true, Bool.and_eq_true, Bool.not_eq_true', bne_iff_ne, ne_eq, decide_eq_true_eq, not_or, not_and] at hn
   refine ⟨i, d, hi, hd, ?_, rfl, rfl, rfl, rfl, by simpa using hn.2⟩
   cases hag : isAggD d with
   | true => simp [Sh.size]
   | false => simp [Sh.size]; exact Decidable.not_not.1 (hn.1 hag)
 ·simp at h1
theorem TInfo.slice {P : Program} {t : TypeId} {ti : TI} {i : TypeInfo} {d : TypeDesc} (h : TInfo P t ti i d) {e : TypeId} (hk : ti.kind = .slice e) : d = .slice e := by
 have := h.kind; rw [hk] at this; cases d <;> simp only [kindOf] at this <;> first | (cases this; done) | (cases this; rfl) | (split at this <;> cases this)
theorem TInfo.array {P : Program} {t : TypeId} {ti : TI} {i : TypeInfo} {d : TypeDesc} (h : TInfo P t ti i d) {n : Nat} {e : TypeId} (hk : ti.kind = .array n e) : d = .array n e := by
 have := h.kind; rw [hk] at this; cases d <;> simp only [kindOf] at this <;> first | (cases this; done) | (cases this; rfl) | (split at this <;> cases this)
theorem TInfo.map {P : Program} {t : TypeId} {ti : TI} {i : TypeInfo} {d : TypeDesc} (h : TInfo P t ti i d) {k e : TypeId} (hk : ti.kind = .map k e) : d = .map k e := by
 have := h.kind; rw [hk] at this
 cases d <;> simp only [kindOf] at this <;> first | (cases this; done) | (cases this; rfl) | (split at this <;> exact absurd this (by simp))
theorem TInfo.int {P : Program} {t : TypeId} {ti : TI} {i : TypeInfo} {d : TypeDesc} (h : TInfo P t ti i d) {k : IntKind} (hk : ti.kind = .int k) : d = .int k := by
 have := h.kind; rw [hk] at this; cases d <;> simp only [kindOf] at this <;> first | (cases this; done) | (cases this; rfl) | (split at this <;> cases this)
theorem TInfo.str {P : Program} {t : TypeId} {ti : TI} {i : TypeInfo} {d : TypeDesc} (h : TInfo P t ti i d) (hk : ti.kind = .str) : d = .string := by
 have := h.kind; rw [hk] at this; cases d <;> simp only [kindOf] at this <;> first | (cases this; done) | (cases this; rfl) | (split at this <;> cases this)
theorem TInfo.struct {P : Program} {t : TypeId} {ti : TI} {i : TypeInfo} {d : TypeDesc} (h : TInfo P t ti i d) {fs : List (Nat × Sh)} {b : Option (List Nat)} (hk : ti.kind = .struct fs b) :
  ∃ fields, d = .struct fields ∧ fs = fields.toList.map (fun f => (f.offset, shOf P f.type)) ∧
   b = (if !P.stoodInHeld t && !P.eqGuardType P.depth t then eqKinds P 0 fields.toList else none) ∧ ∀ fl ∈ fields.toList, ∃ d, P.underlying fl.type = some d ∧ (isAggD d = false → P.cellsOf fl.type = 1) := by
 have := h.kind; rw [hk] at this
 cases d <;> simp only [kindOf] at this <;> first | (cases this; done) | skip
 split at this
 ·rename_i ha
  simp only [TK.struct.injEq] at this
  refine ⟨_, rfl, this.1, this.2, fun fl hfl => ?_⟩
  rw [List.all_eq_true] at ha
  have := ha fl hfl
  unfold fieldOk at this
  cases hu : P.underlying fl.type with
  | none => rw [hu] at this; simp at this
  | some d =>
   rw [hu] at this
   refine ⟨d, rfl, fun hd => ?_⟩
   simpa [hd] using this
 ·exact absurd this (by simp)
theorem avOf_tup {z : Value} {l : List AV} (h : avOf z = .tup l) : False := by
 unfold avOf at h
 split at h <;> simp at h
theorem avOfA_tup {z : Value} {l : List AV} (h : avOfA z = .tup l) : False := by
 unfold avOfA at h
 split at h
 ·split at h <;> simp at h
 ·exact avOf_tup h
theorem TInfo.zeroOk {P : Program} {t : TypeId} {ti : TI} {i : TypeInfo} {d : TypeDesc} (h : TInfo P t ti i d) {sh : Sh} (hs : isSh ti.zero sh = true) : ∃ z, i.zero = some z ∧ avOfA z = ti.zero := by
 have := h.zero
 cases hz : i.zero with
 | none => rw [hz] at this; simp only at this; rw [this] at hs; simp [isSh, AV.sh] at hs
 | some z =>
  rw [hz] at this
  simp only at this
  refine ⟨z, rfl, ?_⟩
  unfold avOfZ at this
  split at this
  ·rw [this] at hs; simp [isSh, AV.sh] at hs
  ·exact this.symm
theorem TInfo.zeroMap {P : Program} {t : TypeId} {ti : TI} {i : TypeInfo} {d : TypeDesc} (h : TInfo P t ti i d) (hz0 : ti.zero = .tup []) : i.zero = some (.map none) := by
 have := h.zero
 rw [hz0] at this
 cases hz : i.zero with
 | none => rw [hz] at this; simp at this
 | some z =>
  rw [hz] at this
  simp only at this
  unfold avOfZ at this
  split at this
  ·rfl
  ·exact (avOfA_tup this.symm).elim
theorem Sh.beq_eq {a b : Sh} (h : a.beq b = true) : a = b := by
 cases a <;> cases b <;> simp [Sh.beq] at h <;> first | rfl | rw [h]
section
variable {P : Program} (Γ : Tab P) {C : Ctx} (hC : HRep C) {a : Act} {fr : Fr} (hf : FrOk C a fr) {o : Oper} {next : AV → List Blk → Prop}
include hC hf
theorem snd_move {x : Operand} (ho : o.op = .move x ∨ o.op = .assign x) (h : force (ev fr x) fun a => next a C.H) : Snd P o a C next := by
 rw [force_eq] at h
 refine ⟨_, _, h, Yield.same hC (v := a.eval x) ?_ (hf.ev x)⟩
 rcases ho with ho | ho <;> simp [execOp, ho]
theorem snd_pick {c x y : Operand} (ho : o.op = .pick c x y) (h : aop Γ fr (.pick c x y) C.H next) : Snd P o a C next := by
 simp only [aop] at h
 split at h
 ·rename_i q hq
  have hc := hf.ev c
  rw [hq] at hc
  have hc := hc.bool
  rcases h.elim with ⟨e, g⟩ | ⟨e, g⟩ <;> rw [force_eq] at g <;> subst e
  ·exact ⟨_, _, g, Yield.same hC (v := a.eval x) (by simp [execOp, ho, hc, asBool]) (hf.ev x)⟩
  ·exact ⟨_, _, g, Yield.same hC (v := a.eval y) (by simp [execOp, ho, hc, asBool]) (hf.ev y)⟩
 ·exact h.elim
theorem snd_nilCheck {x : Operand} (ho : o.op = .nilCheck x) (h : aop Γ fr (.nilCheck x) C.H next) : Snd P o a C next := by
 simp only [aop] at h
 have hx := hf.ev x
 split at h
 ·rename_i id i k hq
  rw [hq] at hx
  split at h
  ·rename_i kk sh es hid
   have hv := hx.ptr hid
   exact ⟨_, _, h, Yield.same hC (v := a.eval x) (by simp [execOp, ho, hv]) hx⟩
  ·exact h.elim
 ·rename_i sh x' k hq
  rw [hq] at hx
  refine ⟨_, _, h, Yield.same hC (v := a.eval x) ?_ hx⟩
  have hx : RP C.w C.G (a.eval x) (.at sh x' k) := hx
  cases hv : a.eval x <;> rw [hv] at hx <;> cases hx
  simp [execOp, ho, hv]
 ·exact h.elim
omit hC hf in
theorem kindBeq_eq {a b : IntKind} (h : kindBeq a b = true) : a = b := by
 cases a <;> cases b <;> first | rfl | (simp [kindBeq] at h)
omit hC hf in
theorem aopInt_snd {op : BinOp} {k : IntKind} {x y : Int} {nx : AV → Prop} (hs : op ≠ .shl ∧ op ≠ .shr) (h : aopInt op k x y nx) (t : TypeId) :
  ∃ r v, nx r ∧ (∀ w : World, (binOp op t (.int k x) (.int k y)).run P w = .ok v w) ∧ ∀ (w : World) (G : Nat → Prop), RP w G v r := by
 cases op <;> simp only [aopInt] at h <;> first
  | exact h.elim
  | (exact absurd rfl hs.1)
  | (exact absurd rfl hs.2)
  | (obtain ⟨z, rfl, hn⟩ := h; exact ⟨_, _, hn, fun w => by simp [binOp, Op.intArith], fun w G => .int _ _⟩)
  | (obtain ⟨hy, z, rfl, hn⟩ := h; exact ⟨_, _, hn, fun w => by simp [binOp, Op.intDiv, hy], fun w G => .int _ _⟩)
  | (obtain ⟨hy, hn⟩ := h; exact ⟨_, _, hn, fun w => by simp [binOp, Op.intDiv, hy], fun w G => .int _ _⟩)
  | (refine ⟨_, _, h, fun w => ?_, fun w G => .int _ _⟩; simp [binOp, Op.intBits, bitop])
  | (rcases h.elim with ⟨e, hn⟩ | ⟨e, hn⟩ <;> simp only [decide_eq_true_eq, decide_eq_false_iff_not] at e <;>
    exact ⟨_, _, hn, fun w => by simp [binOp, Op.intCmp, e], fun w G => .bool _⟩)
omit hC hf in
theorem leafEqA_snd {c : Nat} {x y : AV} {b : Bool} (h : leafEqA c x y = some b) {G : Nat → Prop} {w : World} {u v : Value} (hu : RP w G u x) (hv : RP w G v y) {t : TypeId}
  (ht : (c = 0 ∧ ∃ k, P.underlying t = some (.int k)) ∨ (c = 1 ∧ P.underlying t = some .string) ∨ (c = 2 ∧ P.underlying t = some .bool)) (d : Nat) (w : World) :
  (Op.equalIn (d + 1) t u v).run P w = .ok b w := by
 unfold leafEqA at h
 split at h
 ·split at h
  ·rename_i hk
   have := kindBeq_eq hk; subst this
   cases hu; cases hv
   simp only [Option.some.injEq] at h
   rcases ht with ⟨_, k, hk⟩ | ⟨h1, _⟩ | ⟨h1, _⟩
   ·rw [run_equalIn_int w d t _ k _ _ hk]; rw [← h]; congr 1
   ·simp at h1
   ·simp at h1
  ·simp at h
 ·cases hu; cases hv
  simp only [Option.some.injEq] at h
  rcases ht with ⟨h1, _⟩ | ⟨_, hk⟩ | ⟨h1, _⟩
  ·simp at h1
  ·rw [run_equalIn_string w d t _ _ hk, ← h, ByteArray.toList_eq, ByteArray.toList_eq]; congr 1; rw [Bool.eq_iff_iff]; simp
  ·simp at h1
 ·cases hu; cases hv
  simp only [Option.some.injEq] at h
  rcases ht with ⟨h1, _⟩ | ⟨h1, _⟩ | ⟨_, hk⟩
  ·simp at h1
  ·simp at h1
  ·rw [run_equalIn_bool' w d t _ _ hk, ← h]
 ·simp at h
omit hC hf in
theorem leafEqA_pure {c : Nat} {x y : AV} {b : Bool} (h : leafEqA c x y = some b) : x.pure1 = true ∧ y.pure1 = true := by
 unfold leafEqA at h
 split at h <;> first | exact ⟨rfl, rfl⟩ | (simp at h)
omit hC hf in
theorem eqKs_cons {sub : List Field → Option (List Nat)} {i : Nat} {f : Field} {r : List Field} {ks : List Nat} (h : eqKs P sub i (f :: r) = some ks) :
  f.name ≠ "_" ∧ f.offset = i ∧ ((∃ c ks', ks = c :: ks' ∧ eqKs P sub (i + 1) r = some ks' ∧
   ((c = 0 ∧ ∃ k, P.underlying f.type = some (.int k)) ∨ (c = 1 ∧ P.underlying f.type = some .string) ∨ (c = 2 ∧ P.underlying f.type = some .bool))) ∨
   ∃ fs ks1 ks', ks = ks1 ++ ks' ∧ P.underlying f.type = some (.struct fs) ∧ sub fs.toList = some ks1 ∧ ks1.length = P.cellsOf f.type ∧ P.stoodInHeld f.type = false ∧ eqKs P sub (i + ks1.length) r = some ks') := by
 simp only [eqKs] at h
 split at h
 ·rename_i hc
  simp only [Bool.and_eq_true, bne_iff_ne, ne_eq] at hc
  refine ⟨hc.1, Nat.eq_of_beq_eq_true hc.2, ?_⟩
  split at h
  ·rename_i k hk
   simp only [Option.map_eq_some_iff] at h
   obtain ⟨ks', h1, rfl⟩ := h
   exact .inl ⟨0, ks', rfl, h1, .inl ⟨rfl, _, hk⟩⟩
  ·rename_i hk
   simp only [Option.map_eq_some_iff] at h
   obtain ⟨ks', h1, rfl⟩ := h
   exact .inl ⟨1, ks', rfl, h1, .inr (.inl ⟨rfl, hk⟩)⟩
  ·rename_i hk
   simp only [Option.map_eq_some_iff] at h
   obtain ⟨ks', h1, rfl⟩ := h
   exact .inl ⟨2, ks', rfl, h1, .inr (.inr ⟨rfl, hk⟩)⟩
  ·rename_i fs hk
   split at h
   ·rename_i ks1 hs
    split at h
    ·rename_i hl
     simp only [Bool.and_eq_true, Bool.not_eq_true'] at hl
     simp only [Option.map_eq_some_iff] at h
     obtain ⟨ks', h1, rfl⟩ := h
     exact .inr ⟨fs, ks1, ks', rfl, hk, hs, Nat.eq_of_beq_eq_true hl.1, hl.2, h1⟩
    ·simp at h
   ·simp at h
  ·simp at h
 ·simp at h
omit hC hf in
theorem allEqA_split : ∀ (ks1 ks2 : List Nat) (xs ys : List AV) (b : Bool), allEqA (ks1 ++ ks2) xs ys = some b →
  ∃ b1 b2, allEqA ks1 (xs.take ks1.length) (ys.take ks1.length) = some b1 ∧ allEqA ks2 (xs.drop ks1.length) (ys.drop ks1.length) = some b2 ∧ b = (b1 && b2)
 | [], ks2, xs, ys, b, h => ⟨true, b, by simp [allEqA], by simpa using h, by simp⟩
 | k :: r, ks2, xs, ys, b, h => by
  cases xs with
  | nil => cases ys <;> simp [allEqA] at h
  | cons x xs =>
  cases ys with
  | nil => simp [allEqA] at h
  | cons y ys =>
   simp only [List.cons_append, allEqA] at h
   split at h
   ·rename_i c hc
    split at h
    ·rename_i d hd
     obtain ⟨b1, b2, h1, h2, h3⟩ := allEqA_split r ks2 xs ys d hd
     simp only [Option.some.injEq] at h
     refine ⟨c && b1, b2, ?_, by simpa using h2, by rw [← h, h3, Bool.and_assoc]⟩
     simp only [List.length_cons, List.take_succ_cons, allEqA, hc, h1]
    ·simp at h
   ·simp at h
omit hC hf in
theorem allEqA_len : ∀ (ks : List Nat) (xs ys : List AV) (b : Bool), allEqA ks xs ys = some b → xs.length = ks.length ∧ ys.length = ks.length
 | [], xs, ys, b, h => by cases xs <;> cases ys <;> simp [allEqA] at h ⊢
 | k :: r, xs, ys, b, h => by
  cases xs with
  | nil => cases ys <;> simp [allEqA] at h
  | cons x xs =>
  cases ys with
  | nil => simp [allEqA] at h
  | cons y ys =>
   simp only [allEqA] at h
   split at h
   ·split at h
    ·rename_i d hd
     obtain ⟨h1, h2⟩ := allEqA_len r xs ys d hd
     simp [h1, h2]
    ·simp at h
   ·simp at h
omit hC hf in
theorem run_part_leaf {t : TypeId} {d : TypeDesc} (h : P.underlying t = some d) (hd : isAggD d = false) {cs : Array Value} {off : Nat} {v : Value} (hv : cs[off]? = some v) (w : World) :
  (part t cs off).run P w = .ok v w := by
 simp [part, run_isAgg w h, hd, hv]
omit hC hf in
/-- The fields of a struct are compared: what 'sub' says of structs within. -/
def EqGood (P : Program) (sub : List Field → Option (List Nat)) (d : Nat) : Prop := ∀ (fs : List Field) (ks : List Nat) (us vs : Array Value) (xs ys : List AV) (b : Bool) (w0 : World) (G : Nat → Prop) (w : World), sub fs = some ks → allEqA ks xs ys = some b →
  (∀ j, (h : j < xs.length) → ∃ u, us[j]? = some u ∧ (xs[j].pure1 = true → RP w0 G u xs[j])) → (∀ j, (h : j < ys.length) → ∃ u, vs[j]? = some u ∧ (ys[j].pure1 = true → RP w0 G u ys[j])) →
  (Op.eqFields d us vs fs).run P w = .ok b w
omit hC hf in
theorem allEqA_sndS {sub : List Field → Option (List Nat)} (d : Nat) (hsub : EqGood P sub d) (w0 : World) (G : Nat → Prop) (w : World) : ∀ (fs : List Field) (ks : List Nat) (i : Nat) (us vs : Array Value) (xs ys : List AV) (b : Bool), eqKs P sub i fs = some ks → allEqA ks xs ys = some b →
  (∀ j, (h : j < xs.length) → ∃ u, us[i + j]? = some u ∧ (xs[j].pure1 = true → RP w0 G u xs[j])) → (∀ j, (h : j < ys.length) → ∃ u, vs[i + j]? = some u ∧ (ys[j].pure1 = true → RP w0 G u ys[j])) →
  (Op.eqFields (d + 1) us vs fs).run P w = .ok b w
 | [], ks, i, us, vs, xs, ys, b, hk, h, hu, hv => by
  simp only [eqKs, Option.some.injEq] at hk
  subst hk
  cases xs <;> cases ys <;> simp [allEqA] at h
  subst h; simp [Op.eqFields]
 | f :: r, ks, i, us, vs, xs, ys, b, hk, h, hu, hv => by
  obtain ⟨hn, hoff, ⟨c, ks', rfl, hk', hc⟩ | ⟨fs, ks1, ks', rfl, hund, hs1, hlen1, hst, hk'⟩⟩ := eqKs_cons hk
  ·cases xs with
   | nil => cases ys <;> simp [allEqA] at h
   | cons x r' =>
   cases ys with
   | nil => simp [allEqA] at h
   | cons y q =>
    simp only [allEqA] at h
    split at h
    ·rename_i c1 hc1
     split at h
     ·rename_i d1 hd1
      simp only [Option.some.injEq] at h
      obtain ⟨p1, p2⟩ := leafEqA_pure hc1
      obtain ⟨u, hu0, hu1⟩ := hu 0 (by simp)
      obtain ⟨v, hv0, hv1⟩ := hv 0 (by simp)
      simp only [Nat.add_zero] at hu0 hv0
      have hU := hu1 p1
      have hV := hv1 p2
      have hq := leafEqA_snd (P := P) hc1 hU hV hc d w
      have ih := allEqA_sndS d hsub w0 G w r ks' (i + 1) us vs r' q d1 hk' hd1
       (fun j hj => by have := hu (j + 1) (by simp; omega); simpa [Nat.add_assoc, Nat.add_comm 1 j] using this)
       (fun j hj => by have := hv (j + 1) (by simp; omega); simpa [Nat.add_assoc, Nat.add_comm 1 j] using this)
      have hd0 : ∃ dd, P.underlying f.type = some dd ∧ isAggD dd = false := by
       rcases hc with ⟨_, k, hk⟩ | ⟨_, hk⟩ | ⟨_, hk⟩ <;> exact ⟨_, hk, rfl⟩
      obtain ⟨dd, hdd, hag⟩ := hd0
      rw [← hoff] at hu0 hv0
      simp only [Op.eqFields, hn, ne_eq, not_false_eq_true, if_true, Sem.run_bind, run_part_leaf hdd hag hu0, run_part_leaf hdd hag hv0, Result.andThen_ok, hq]
      cases c1
      ·simp at h; simp [h]
      ·simp at h; subst h; simpa using ih
     ·simp at h
    ·simp at h
  ·obtain ⟨b1, b2, e1, e2, hb⟩ := allEqA_split ks1 ks' xs ys b h
   obtain ⟨hlx, hly⟩ := allEqA_len _ _ _ _ h
   rw [List.length_append] at hlx hly
   obtain ⟨info, hinfo⟩ : ∃ info, P.info? f.type = some info := by
    unfold Program.underlying at hund
    cases hq : P.info? f.type with
    | none => simp [hq] at hund
    | some i => exact ⟨i, rfl⟩
   have hsz : info.size = ks1.length := by rw [hlen1]; simp [Program.cellsOf, hinfo]
   have hpart : ∀ (cs : Array Value), (part f.type cs i).run P w = .ok (.agg (cs.extract i (i + ks1.length))) w := fun cs => by
    simp [part, run_isAgg w hund, isAggD, run_sz w hinfo, hsz]
   have hF : P.fieldsOf f.type = fs := by simp [Program.fieldsOf, hund]
   have key : ∀ (cs : Array Value) (zs : List AV), zs.length = ks1.length + ks'.length → (∀ j, (h : j < zs.length) → ∃ u, cs[i + j]? = some u ∧ (zs[j].pure1 = true → RP w0 G u zs[j])) →
     ∀ j, (h : j < (zs.take ks1.length).length) → ∃ u, (cs.extract i (i + ks1.length))[j]? = some u ∧ ((zs.take ks1.length)[j].pure1 = true → RP w0 G u (zs.take ks1.length)[j]) := by
    intro cs zs hz hc j hj
    rw [List.length_take] at hj
    obtain ⟨u, hu0, hu1⟩ := hc j (by omega)
    refine ⟨u, ?_, by simpa using hu1⟩
    rw [Array.getElem?_extract, if_pos]
    ·exact hu0
    ·have := (Array.getElem?_eq_some_iff.1 hu0).1
     omega
   have hin := hsub fs.toList ks1 (us.extract i (i + ks1.length)) (vs.extract i (i + ks1.length)) _ _ b1 w0 G w hs1 e1 (key us xs hlx hu) (key vs ys hly hv)
   have hrun := run_equalIn_struct (P := P) w d f.type (us.extract i (i + ks1.length)) (vs.extract i (i + ks1.length)) (by rw [hF]; exact hund) hst
   rw [hF, hin] at hrun
   have ih := allEqA_sndS d hsub w0 G w r ks' (i + ks1.length) us vs (xs.drop ks1.length) (ys.drop ks1.length) b2 hk' e2
    (fun j hj => by rw [List.length_drop] at hj; have := hu (ks1.length + j) (by omega); simpa [Nat.add_assoc] using this)
    (fun j hj => by rw [List.length_drop] at hj; have := hv (ks1.length + j) (by omega); simpa [Nat.add_assoc] using this)
   simp only [Op.eqFields, hn, ne_eq, not_false_eq_true, if_true, Sem.run_bind, hoff, hpart us, hpart vs, Result.andThen_ok, hrun]
   cases b1
   ·simp at hb; simp [hb]
   ·simp at hb; subst hb; simpa using ih
omit hC hf in
theorem allEqA_snd (d : Nat) (w0 : World) (G : Nat → Prop) (w : World) (fs : List Field) (ks : List Nat) (us vs : Array Value) (xs ys : List AV) (b : Bool) (hk : eqKinds P 0 fs = some ks) (h : allEqA ks xs ys = some b)
  (hu : ∀ j, (h : j < xs.length) → ∃ u, us[j]? = some u ∧ (xs[j].pure1 = true → RP w0 G u xs[j])) (hv : ∀ j, (h : j < ys.length) → ∃ u, vs[j]? = some u ∧ (ys[j].pure1 = true → RP w0 G u ys[j])) :
  (Op.eqFields (d + 3) us vs fs).run P w = .ok b w :=
 allEqA_sndS (d + 2) (fun fs ks us vs xs ys b w0 G w hk h hu hv => allEqA_sndS (d + 1) (fun fs ks us vs xs ys b w0 G w hk => by simp at hk) w0 G w fs ks 0 us vs xs ys b hk h
  (fun j hj => by simpa using hu j hj) (fun j hj => by simpa using hv j hj)) w0 G w fs ks 0 us vs xs ys b hk h (fun j hj => by simpa using hu j hj) (fun j hj => by simpa using hv j hj)
omit hC hf in
theorem run_eqGuard_plain {op : BinOp} {t : TypeId} {x y : Operand} {u v : Value} (h : ∀ cs ds, ¬ (u = .agg cs ∧ v = .agg ds)) (hn : ¬ (u = .nilIface ∧ v = .nilIface)) (w : World) : (eqGuard op t x y u v).run P w = .ok () w := by
 unfold eqGuard
 cases op <;> simp
 all_goals (split <;> first | (exact absurd ⟨rfl, rfl⟩ hn) | (exact absurd ⟨rfl, rfl⟩ (h _ _)) | simp)
omit hC hf in
theorem equalIn_nils {t e : TypeId} (h : P.underlying t = some (.slice e)) (d : Nat) (w : World) : (Op.equalIn (d + 1) t (.slice none 0 0) (.slice none 0 0)).run P w = .ok true w := by
 simp [Op.equalIn, run_und w h]
omit hC hf in
theorem equalIn_none {t e : TypeId} (h : P.underlying t = some (.slice e)) (d : Nat) (w : World) (n c : Nat) : (Op.equalIn (d + 1) t (.slice none n c) (.slice none 0 0)).run P w = .ok true w := by
 simp [Op.equalIn, run_und w h]
omit hC hf in
theorem equalIn_some {t e : TypeId} (h : P.underlying t = some (.slice e)) (d : Nat) (w : World) (ad : Addr) (n c : Nat) : (Op.equalIn (d + 1) t (.slice (some ad) n c) (.slice none 0 0)).run P w = .ok false w := by
 simp [Op.equalIn, run_und w h]
omit hC hf in
theorem lbeq (x y : List UInt8) : (x == y) = decide (x = y) := by rw [Bool.eq_iff_iff]; simp
omit hC hf in
theorem bindOk {α : Type} {x : Sem Unit} {y : Sem α} {w : World} {v : α} (h1 : x.run P w = .ok () w) (h2 : y.run P w = .ok v w) : (do x; y : Sem α).run P w = .ok v w := by
 rw [Sem.run_bind, h1, Result.andThen_ok, h2]
omit hf in
theorem snd_bin {op : BinOp} {t : TypeId} {x y : Operand} {yt : TypeId} (ho : o.op = .binOp op t x y yt) {u v r : Value} (hu : a.eval x = u) (hv : a.eval y = v)
  (hg : ∀ cs ds, ¬ (u = .agg cs ∧ v = .agg ds)) (hn : ¬ (u = .nilIface ∧ v = .nilIface)) (hr : (binOp op t u v).run P C.w = .ok r C.w) {q : AV} (hq : RT C r q) (hx : next q C.H) : Snd P o a C next :=
 ⟨q, _, hx, Yield.same hC (v := r) (by
  simp only [execOp, ho, hu, hv]
  rw [Sem.run_bind, bindOk (run_eqGuard_plain hg hn C.w) hr]; rfl) hq⟩
theorem snd_binOp {op : BinOp} {t : TypeId} {x y : Operand} {yt : TypeId} (ho : o.op = .binOp op t x y yt) (h : aop Γ fr (.binOp op t x y yt) C.H next) : Snd P o a C next := by
 simp only [aop] at h
 have hx := hf.ev x
 have hy := hf.ev y
 split at h
 ·rename_i sh by' kd ze hti
  unfold aopBin at h
  split at h
  ·-- numbers
   rename_i ka n hxe
   rw [hxe] at hx
   split at h
   ·rename_i kb m hye
    rw [hye] at hy
    have hx := hx.int
    have hy := hy.int
    split at h
    ·obtain ⟨h0, h⟩ := h
     refine snd_bin hC ho hx hy (by simp) (by simp) (r := .int ka _) ?_ (RP.int (w := C.w) (G := C.G) ka _).RT h
     simp [binOp, Op.shift, Int.not_lt.2 h0]
    ·obtain ⟨h0, h⟩ := h
     refine snd_bin hC ho hx hy (by simp) (by simp) (r := .int ka _) ?_ (RP.int (w := C.w) (G := C.G) ka _).RT h
     simp [binOp, Op.shift, Int.not_lt.2 h0]
    ·rename_i hne1 hne2
     split at h
     ·rename_i hk
      have hk := kindBeq_eq hk; subst hk
      obtain ⟨r, v, hn, hrun, hrp⟩ := aopInt_snd (P := P) ⟨fun e => hne1 e, fun e => hne2 e⟩ h t
      exact snd_bin hC ho hx hy (by simp) (by simp) (hrun C.w) (hrp C.w C.G).RT hn
     ·exact h.elim
   ·exact h.elim
  ·-- texts
   rename_i s hxe
   rw [hxe] at hx
   split at h
   ·rename_i s' hye
    rw [hye] at hy
    obtain ⟨b, hb, rfl⟩ := hx.str
    obtain ⟨b', hb', rfl⟩ := hy.str
    have fin : ∀ {r : Value} {q : AV}, (binOp op t (.string b) (.string b')).run P C.w = .ok r C.w → RP C.w C.G r q → next q C.H → Snd P o a C next :=
     fun hr hq hn => snd_bin hC ho hb hb' (by simp) (by simp) hr hq.RT hn
    split at h
    ·obtain ⟨h0, h⟩ := h
     refine fin (r := .string (b ++ b')) ?_ ?_ h
     ·have : ¬ (((b.size + b'.size : Nat) : Int) > IntKind.i64.max) := by
       have e1 : b.data.toList.length = b.size := by simp
       have e2 : b'.data.toList.length = b'.size := by simp
       rw [e1, e2] at h0; omega
      simp only [binOp, Op.stringOp]
      rw [if_neg this]; rfl
     ·have := RP.str (w := C.w) (G := C.G) (b ++ b')
      simpa using this
    all_goals try first | (rcases h.elimb with ⟨e, g⟩ | ⟨e, g⟩ <;> refine fin (by simp only [binOp, Op.stringOp, ByteArray.toList_eq, lbeq]; rfl) ?_ g <;> (rw [e]; exact .bool _)) | (rcases h.elim with ⟨e, g⟩ | ⟨e, g⟩ <;> refine fin (by simp only [binOp, Op.stringOp, ByteArray.toList_eq, lbeq]; rfl) ?_ g <;> (rw [e]; exact .bool _))
    ·exact h.elim
   ·exact h.elim
  ·-- bools
   rename_i b hxe
   rw [hxe] at hx
   split at h
   ·rename_i b' hye
    rw [hye] at hy
    have hx := hx.bool
    have hy := hy.bool
    split at h
    ·obtain ⟨i, d, hi⟩ := Γ.info hti
     have hd := hi.kind
     have hd : d = .bool := by cases d <;> simp only [kindOf] at hd <;> first | (cases hd; done) | (cases hd; rfl) | (split at hd <;> cases hd)
     have hu := hi.und
     rw [hd] at hu
     have hrun : ∀ w : World, (Op.equal t (.bool b) (.bool b')).run P w = .ok (b == b') w := fun w => run_equalIn_bool' w 9999 t b b' hu
     split at h
     ·rcases h.elimb with ⟨e, g⟩ | ⟨e, g⟩ <;>
       exact snd_bin hC ho hx hy (by simp) (by simp) (by simp only [binOp, Sem.run_bind, hrun, Result.andThen_ok, e]; rfl) (RP.bool (w := C.w) (G := C.G) _).RT g
     ·rcases h.elimb with ⟨e, g⟩ | ⟨e, g⟩ <;>
       exact snd_bin hC ho hx hy (by simp) (by simp) (by simp only [binOp, Sem.run_bind, hrun, Result.andThen_ok, e]; rfl) (RP.bool (w := C.w) (G := C.G) _).RT g
     ·exact h.elim
    ·exact h.elim
   ·exact h.elim
  ·-- structs
   rename_i cs hxe
   rw [hxe] at hx
   split at h
   ·rename_i ds hye
    rw [hye] at hy
    split at h
    ·rename_i fs ks
     obtain ⟨i, d, hi⟩ := Γ.info hti
     obtain ⟨fields, rfl, hfs, heq, _⟩ := hi.struct rfl
     obtain ⟨us, hu, husz, huc, _⟩ := hx.agg
     obtain ⟨vs, hv, hvsz, hvc, _⟩ := hy.agg
     split at heq
     ·rename_i hok
      simp only [Bool.and_eq_true, Bool.not_eq_true'] at hok
      split at h
      ·rename_i c hc
       have hF : P.fieldsOf t = fields := by simp [Program.fieldsOf, hi.und]
       have hrun := run_equalIn_struct (P := P) C.w 9999 t us vs (by rw [hF]; exact hi.und) hok.1
       rw [hF, allEqA_snd (P := P) 9996 C.w C.G C.w fields.toList ks us vs cs ds c heq.symm hc
        (fun j hj => ⟨us.getD j undef, by simp [Array.getD_eq_getD_getElem?, Array.getElem?_eq_getElem (show j < us.size by omega)], fun hp => RL.pure (huc j hj) hp⟩)
        (fun j hj => ⟨vs.getD j undef, by simp [Array.getD_eq_getD_getElem?, Array.getElem?_eq_getElem (show j < vs.size by omega)], fun hp => RL.pure (hvc j hj) hp⟩)] at hrun
       have fin : ∀ {b : Bool}, (binOp op t (.agg us) (.agg vs)).run P C.w = .ok (.bool b) C.w → next (.bool b) C.H → Snd P o a C next := by
        intro b hb hn
        refine ⟨_, _, hn, Yield.same hC (v := .bool b) ?_ (RP.bool (w := C.w) (G := C.G) b).RT⟩
        simp only [execOp, ho, hu, hv]
        rw [Sem.run_bind, bindOk (run_eqGuard_agg C.w op t x y us vs hok.2) hb]; rfl
       split at h
       ·rcases h.elimb with ⟨e, g⟩ | ⟨e, g⟩ <;> subst e <;> exact fin (by rw [run_eql_struct, hrun]; rfl) g
       ·rcases h.elimb with ⟨e, g⟩ | ⟨e, g⟩ <;> subst e <;> exact fin (by rw [run_neq_struct, hrun]; rfl) g
       ·exact h.elim
      ·exact h.elim
     ·simp at heq
    ·exact h.elim
   ·exact h.elim
  ·-- nil slices
   rename_i hxe
   rw [hxe] at hx
   split at h
   ·rename_i hye
    rw [hye] at hy
    have hx := hx.nils
    have hy := hy.nils
    split at h
    ·obtain ⟨i, d, hi⟩ := Γ.info hti
     have hd := hi.slice rfl; subst hd
     have hrun : ∀ w : World, (Op.equal t (.slice none 0 0) (.slice none 0 0)).run P w = .ok true w := fun w => equalIn_nils hi.und 9999 w
     split at h
     ·exact snd_bin hC ho hx hy (by simp) (by simp) (by simp only [binOp, Sem.run_bind, hrun, Result.andThen_ok]; rfl) (RP.bool (w := C.w) (G := C.G) _).RT h
     ·exact snd_bin hC ho hx hy (by simp) (by simp) (by simp only [binOp, Sem.run_bind, hrun, Result.andThen_ok]; rfl) (RP.bool (w := C.w) (G := C.G) _).RT h
     ·exact h.elim
    ·exact h.elim
   ·exact h.elim
  ·rename_i sh' l hxe
   rw [hxe] at hx
   split at h
   ·rename_i hye
    rw [hye] at hy
    have hy := hy.nils
    split at h
    ·obtain ⟨i, d, hi⟩ := Γ.info hti
     have hd := hi.slice rfl; subst hd
     have some_of : (l = [] ∧ ∃ n c, a.eval x = .slice none n c) ∨ ∃ ad n c, a.eval x = .slice (some ad) n c := by
      have hx : RP C.w C.G (a.eval x) (.list sh' l) := hx
      generalize a.eval x = u at hx
      cases hx with
      | list0 _ ad c => cases ad with
       | none => exact .inl ⟨rfl, _, _, rfl⟩
       | some ad => exact .inr ⟨_, _, _, rfl⟩
      | list => exact .inr ⟨_, _, _, rfl⟩
     have hrun : ∀ (ad : Addr) (n c : Nat) (w : World), (Op.equal t (.slice (some ad) n c) (.slice none 0 0)).run P w = .ok false w := fun ad n c w => equalIn_some hi.und 9999 w ad n c
     have hrun0 : ∀ (n c : Nat) (w : World), (Op.equal t (.slice none n c) (.slice none 0 0)).run P w = .ok true w := fun n c w => equalIn_none hi.und 9999 w n c
     split at h
     ·obtain ⟨h1, h2⟩ := h
      rcases some_of with ⟨hl, n, c, hu⟩ | ⟨ad, n, c, hu⟩
      ·exact snd_bin hC ho hu hy (by simp) (by simp) (by simp only [binOp, Sem.run_bind, hrun0, Result.andThen_ok]; rfl) (RP.bool (w := C.w) (G := C.G) _).RT (h1 hl)
      ·exact snd_bin hC ho hu hy (by simp) (by simp) (by simp only [binOp, Sem.run_bind, hrun, Result.andThen_ok]; rfl) (RP.bool (w := C.w) (G := C.G) _).RT h2
     ·obtain ⟨h1, h2⟩ := h
      rcases some_of with ⟨hl, n, c, hu⟩ | ⟨ad, n, c, hu⟩
      ·exact snd_bin hC ho hu hy (by simp) (by simp) (by simp only [binOp, Sem.run_bind, hrun0, Result.andThen_ok]; rfl) (RP.bool (w := C.w) (G := C.G) _).RT (h1 hl)
      ·exact snd_bin hC ho hu hy (by simp) (by simp) (by simp only [binOp, Sem.run_bind, hrun, Result.andThen_ok]; rfl) (RP.bool (w := C.w) (G := C.G) _).RT h2
     ·exact h.elim
    ·exact h.elim
   ·exact h.elim
  ·exact h.elim
 ·exact h.elim
end
end Go.Bv
