/- Part of the lift: an abstract walk of the program's code, proved sound, and what it shows of this program. -/
import Derived.Test.YtkehoabgejdpgaaSvCom0
import Derived.Test.YtkehoabgejdpgaaBvVecS
namespace Go.Bv
open Go Go.Proofs

-- Go's structs, as Lean's; their cells; the sizes that an argument may have
def okInt (z : Int) : Prop := -9223372036854775808 ≤ z ∧ z < 9223372036854775808
@[ext] structure Dot where
  node : Int
  seq : Int
  at' : Int
  deriving DecidableEq
@[ext] structure Item where
  key : List UInt8
  field : List UInt8
  kind : Int
  elem : List UInt8
  n : Int
  dot : Dot
  deriving DecidableEq
@[ext] structure Eff where
  at' : Int
  key : List UInt8
  field : List UInt8
  kind : Int
  elem : List UInt8
  n : Int
  drops : List Dot
  deriving DecidableEq
@[ext] structure Txn where
  node : Int
  seq : Int
  deps : List Int
  effs : List Eff
  deriving DecidableEq
@[ext] structure Store where
  heard : List Int
  items : List Item
  deriving DecidableEq
@[ext] structure Past where
  floor : List Int
  list : List Txn
  deriving DecidableEq
@[ext] structure Queue where
  most : Int
  list : List Txn
  deriving DecidableEq
@[ext] structure Packet where
  src : Int
  dst : Int
  bytes : List UInt8
  deriving DecidableEq
@[ext] structure Net where
  way : List Packet
  deriving DecidableEq
structure NetOp where
  do' : Int
  src : Int
  dst : Int
  i : Int
  b : List UInt8
structure JOp where
  do' : Int
  keep : Int
  b : List UInt8
structure QOp where
  hears : Bool
  n : Int
  t : Txn

def dotC (x : Dot) : List AV := [i64 x.node, i64 x.seq, i64 x.at']
def dotA (x : Dot) : AV := .agg (dotC x)
def itemC (x : Item) : List AV := [.str x.key, .str x.field, i64 x.kind, .str x.elem, i64 x.n, i64 x.dot.node, i64 x.dot.seq, i64 x.dot.at']
def itemA (x : Item) : AV := .agg (itemC x)
def dotsA (l : List Dot) : AV := .list (.agg 3) (l.map dotA)
def itemsA (l : List Item) : AV := .list (.agg 8) (l.map itemA)
def effC (x : Eff) : List AV := [i64 x.at', .str x.key, .str x.field, i64 x.kind, .str x.elem, i64 x.n, dotsA x.drops]
def effA (x : Eff) : AV := .agg (effC x)
def effsA (l : List Eff) : AV := .list (.agg 7) (l.map effA)
def txnC (x : Txn) : List AV := [i64 x.node, i64 x.seq, ints x.deps, effsA x.effs]
def txnA (x : Txn) : AV := .agg (txnC x)
def txnsA (l : List Txn) : AV := .list (.agg 4) (l.map txnA)
def storeC (x : Store) : List AV := [ints x.heard, itemsA x.items]
def storeA (x : Store) : AV := .agg (storeC x)
def pastC (x : Past) : List AV := [ints x.floor, txnsA x.list]
def pastA (x : Past) : AV := .agg (pastC x)
def queueC (x : Queue) : List AV := [i64 x.most, txnsA x.list]
def queueA (x : Queue) : AV := .agg (queueC x)
def packetC (x : Packet) : List AV := [i64 x.src, i64 x.dst, bytes x.bytes]
def packetA (x : Packet) : AV := .agg (packetC x)
def packetsA (l : List Packet) : AV := .list (.agg 3) (l.map packetA)
def netC (x : Net) : List AV := [packetsA x.way]
def netA (x : Net) : AV := .agg (netC x)
def netOpC (x : NetOp) : List AV := [i64 x.do', i64 x.src, i64 x.dst, i64 x.i, bytes x.b]
def netOpA (x : NetOp) : AV := .agg (netOpC x)
def jopC (x : JOp) : List AV := [i64 x.do', i64 x.keep, bytes x.b]
def jopA (x : JOp) : AV := .agg (jopC x)
def qopC (x : QOp) : List AV := [.bool x.hears, i64 x.n, i64 x.t.node, i64 x.t.seq, ints x.t.deps, effsA x.t.effs]
def qopA (x : QOp) : AV := .agg (qopC x)

def okDot (x : Dot) : Prop := okInt x.node ∧ okInt x.seq ∧ okInt x.at'
def okItem (x : Item) : Prop := x.key.length ≤ reachBytes ∧ x.field.length ≤ reachBytes ∧ okInt x.kind ∧ x.elem.length ≤ reachBytes ∧ okInt x.n ∧ okDot x.dot
def okEff (x : Eff) : Prop := okInt x.at' ∧ x.key.length ≤ reachBytes ∧ x.field.length ≤ reachBytes ∧ okInt x.kind ∧ x.elem.length ≤ reachBytes ∧ okInt x.n ∧ (x.drops.length ≤ reachBytes ∧ ∀ y ∈ x.drops, okDot y)
def okTxn (x : Txn) : Prop := okInt x.node ∧ okInt x.seq ∧ (x.deps.length ≤ reachBytes ∧ ∀ y ∈ x.deps, okInt y) ∧ (x.effs.length ≤ reachBytes ∧ ∀ y ∈ x.effs, okEff y)
def okStore (x : Store) : Prop := (x.heard.length ≤ reachBytes ∧ ∀ y ∈ x.heard, okInt y) ∧ (x.items.length ≤ reachBytes ∧ ∀ y ∈ x.items, okItem y)
def okPast (x : Past) : Prop := (x.floor.length ≤ reachBytes ∧ ∀ y ∈ x.floor, okInt y) ∧ (x.list.length ≤ reachBytes ∧ ∀ y ∈ x.list, okTxn y)
def okQueue (x : Queue) : Prop := okInt x.most ∧ (x.list.length ≤ reachBytes ∧ ∀ y ∈ x.list, okTxn y)
def okPacket (x : Packet) : Prop := okInt x.src ∧ okInt x.dst ∧ x.bytes.length ≤ reachBytes
def okNet (x : Net) : Prop := x.way.length ≤ reachBytes ∧ ∀ y ∈ x.way, okPacket y
def okNetOp (x : NetOp) : Prop := okInt x.do' ∧ okInt x.src ∧ okInt x.dst ∧ okInt x.i ∧ x.b.length ≤ reachBytes
def okJOp (x : JOp) : Prop := okInt x.do' ∧ okInt x.keep ∧ x.b.length ≤ reachBytes
def okQOp (x : QOp) : Prop := True ∧ okInt x.n ∧ okTxn x.t

theorem snocMap {α β : Type} (f : α → β) (l : List α) {i : Nat} (h : i < l.length) : (l.take (i + 1)).map f = (l.take i).map f ++ [f l[i]] := by
  rw [List.take_succ_eq_append_getElem h, List.map_append]; rfl
theorem drop_more {xs l : List AV} {o n : Nat} (h : (xs.drop o).take n = l) (hn : l.length = n) : xs.drop o = l ++ xs.drop (o + n) := by
  conv => lhs; rw [← List.take_append_drop n (xs.drop o), h, List.drop_drop]
theorem drop_all' {xs : List AV} {n : Nat} (h : xs.length = n) : xs.drop n = [] := List.drop_eq_nil_of_le (by omega)
theorem ty_boolT {P : Program} {n : Nat} {t : TypeId} {xs : List AV} (h : TyC P n t xs) (ht : P.underlying t = some .bool) : ∃ b, xs = [.bool b] ∧ True := by
  obtain ⟨b, hb⟩ := ty_bool h ht; exact ⟨b, hb, trivial⟩
theorem ty_u8T {P : Program} {n : Nat} {t : TypeId} {xs : List AV} (h : TyC P n t xs) (ht : P.underlying t = some (.int .u8)) : ∃ b, xs = [u8 b] ∧ True := by
  obtain ⟨b, hb⟩ := ty_u8 h ht; exact ⟨b, hb, trivial⟩
end Go.Bv
