/- Part of the lift: an abstract walk of the program's code, proved sound, and what it shows of this program. -/
import Derived.Test.YtkehoabgejdpgaaBvCore
namespace Go.Bv
open Go

def Sh.beq : Sh → Sh → Bool
  | .leaf, .leaf => true
  | .agg n, .agg m => Nat.beq n m
  | _, _ => false

inductive TK where
  | int (k : IntKind)
  | bool
  | str
  | slice (e : TypeId)
  | struct (fs : List (Nat × Sh)) (eq : Option (List Nat))
  | array (n : Nat) (e : TypeId)
  | map (k e : TypeId)
  | other

structure TI where
  sh : Sh
  bytes : Nat
  kind : TK
  zero : AV

/-- A closed value of one cell as an abstract one. -/
def avOf : Value → AV
  | .bool b => .bool b
  | .int k n => .int k n
  | .string s => .str s.data.toList
  | .slice none 0 0 => .nils
  | .nilFunc => .nilfn
  | _ => .undef
def avOfA : Value → AV
  | .agg cs => if cs.toList.all Value.oneCell' then .agg (cs.toList.map avOf) else .undef
  | v => avOf v

def isAggD : TypeDesc → Bool
  | .struct _ | .array _ _ => true
  | _ => false
def shOf (P : Program) (t : TypeId) : Sh :=
  match P.underlying t with
  | some d => if isAggD d then .agg (P.cellsOf t) else .leaf
  | none => .leaf
def eqKs (P : Program) (sub : List Field → Option (List Nat)) : Nat → List Field → Option (List Nat)
  | _, [] => some []
  | i, f :: r =>
    if f.name != "_" && Nat.beq f.offset i then
      match P.underlying f.type with
      | some (.int _) => (eqKs P sub (i + 1) r).map (0 :: ·)
      | some .string => (eqKs P sub (i + 1) r).map (1 :: ·)
      | some .bool => (eqKs P sub (i + 1) r).map (2 :: ·)
      | some (.struct fs) => match sub fs.toList with
        | some ks => if Nat.beq ks.length (P.cellsOf f.type) && !P.stoodInHeld f.type then (eqKs P sub (i + ks.length) r).map (ks ++ ·) else none
        | none => none
      | _ => none
    else none
def eqKinds (P : Program) : Nat → List Field → Option (List Nat) := eqKs P (eqKs P (fun _ => none) 0)
def fieldOk (P : Program) (t : TypeId) : Bool :=
  match P.underlying t with
  | some d => isAggD d || P.cellsOf t == 1
  | none => false
def kindOf (P : Program) (t : TypeId) : TypeDesc → TK
  | .int k => .int k
  | .bool => .bool
  | .string => .str
  | .slice e => .slice e
  | .struct fs => if fs.toList.all fun f => fieldOk P f.type then .struct (fs.toList.map fun f => (f.offset, shOf P f.type)) (if !P.stoodInHeld t && !P.eqGuardType P.depth t then eqKinds P 0 fs.toList else none) else .other
  | .array n e => .array n e
  | .map k e => .map k e
  | _ => .other
def tiOf (P : Program) (t : TypeId) : Option TI :=
  match P.info? t, P.underlying t with
  | some i, some d =>
    if (!isAggD d && i.size != 1) || i.bytes > 4294967296 then none else
    some { sh := if isAggD d then .agg i.size else .leaf, bytes := i.bytes, kind := kindOf P t d, zero := match i.zero with | some z => avOfA z | none => .undef }
  | _, _ => none

/-- A table of types. -/
structure Tab (P : Program) where
  tbl : List (Option TI)
  ok : ∀ (t : TypeId) (ti : TI), tbl[t]? = some (some ti) → tiOf P t = some ti

def tget : List (Option TI) → Nat → Option TI
  | [], _ => none
  | x :: _, 0 => x
  | _ :: r, n + 1 => tget r n

theorem tget_eq : ∀ (l : List (Option TI)) (t : Nat) (ti : TI), tget l t = some ti → l[t]? = some (some ti)
  | [], _, _, h => by simp [tget] at h
  | x :: _, 0, ti, h => by simp [tget] at h; simp [h]
  | _ :: r, n + 1, ti, h => by simp only [tget] at h; simpa using tget_eq r n ti h

abbrev Fr := List (Nat × AV)
def Fr.get : Fr → Nat → AV
  | [], _ => .undef
  | (k, v) :: r, t => bif Nat.beq k t then v else Fr.get r t
def Fr.put (fr : Fr) (d : Option Tmp) (v : AV) : Fr :=
  match d with
  | some d => (d, v) :: fr
  | none => fr
def ev (fr : Fr) : Operand → AV
  | .tmp t => fr.get t
  | .const v => avOfA v
  | .global _ => .undef
  | .func f => .fn f []

-- the knots of the walk
def NBx (T E : Prop) (b : Bool) : Prop := match b with | true => T | false => E
/-- (The Boolean stands last: the kernel compares arguments from the last one on.) -/
abbrev NB (b : Bool) (T E : Prop) : Prop := NBx T E b
/-- A comparison: both answers. -/
inductive ND (p : Prop) (T E : Prop) : Prop
  | yes (h : p) (hn : T)
  | no (h : ¬ p) (hn : E)
inductive NW (k : IntKind) (n : Int) (next : Int → Prop) : Prop
  | mk (z : Int) (h : z = k.wrap n) (hn : next z)
inductive NP (p : Prop) (next : Prop) : Prop
  | mk (h : p) (hn : next)
inductive NG (l : List AV) (i : Nat) (next : AV → Prop) : Prop
  | mk (x : AV) (h : l[i]? = some x) (hn : next x)

/-- A list may be nil if it is empty. -/
inductive NN (l : List AV) (T E : Prop) : Prop
  | mk (ht : l = [] → T) (he : E)
inductive NSl (l : Int) (len : Nat) (T E : Prop) : Prop
  | mid (h : 0 ≤ l ∧ l.toNat < len) (hn : T)
  | fin (h : l = len) (hn : E)

def force (a : AV) (k : AV → Prop) : Prop :=
  match a with
  | .bool b => k (.bool b)
  | .int j n => k (.int j n)
  | .str s => k (.str s)
  | .nils => k .nils
  | .nilfn => k .nilfn
  | .list sh l => k (.list sh l)
  | .at sh x o => k (.at sh x o)
  | .own id off len => k (.own id off len)
  | .ptr id i o => k (.ptr id i o)
  | .map id => k (.map id)
  | .fn f caps => k (.fn f caps)
  | .agg cs => k (.agg cs)
  | .tup vs => k (.tup vs)
  | .undef => k .undef
theorem force_eq (a : AV) (k : AV → Prop) : force a k = k a := by cases a <;> rfl

/-- A row that nobody writes any more, read under its old name. -/
def thaw (H : List Blk) (a : AV) : AV :=
  match a with
  | .own id off len => match H[id]? with
    | some (.ro sh es) => .list sh ((es.drop off).take len)
    | _ => .own id off len
  | a => a
def forceT (H : List Blk) (a : AV) (k : AV → Prop) : Prop :=
  match a with
  | .bool b => k (.bool b)
  | .int j n => k (.int j n)
  | .str s => k (.str s)
  | .nils => k .nils
  | .nilfn => k .nilfn
  | .list sh l => k (.list sh l)
  | .at sh x o => k (.at sh x o)
  | .own id off len => match H[id]? with
    | some (.ro sh es) => k (.list sh ((es.drop off).take len))
    | _ => k (.own id off len)
  | .ptr id i o => k (.ptr id i o)
  | .map id => k (.map id)
  | .fn f caps => k (.fn f caps)
  | .agg cs => k (.agg cs)
  | .tup vs => k (.tup vs)
  | .undef => k .undef
theorem forceT_eq (H : List Blk) (a : AV) (k : AV → Prop) : forceT H a k = k (thaw H a) := by
  cases a <;> first | rfl | (simp only [forceT, thaw]; split <;> rfl)

def AV.sh : AV → Option Sh
  | .agg cs => some (.agg cs.length)
  | .tup _ => none
  | .undef => none
  | _ => some .leaf
def AV.pure1 : AV → Bool
  | .bool _ | .int _ _ | .str _ | .nils | .nilfn | .list _ _ | .at _ _ _ => true
  | _ => false
def AV.pure : AV → Bool
  | .agg cs => cs.all AV.pure1
  | a => a.pure1
def AV.leafy : AV → Bool
  | .agg _ | .fn _ _ | .tup _ => false
  | _ => true
def AV.noTup : AV → Bool
  | .tup _ => false
  | _ => true
def AV.cells : AV → List AV
  | .agg cs => cs
  | a => [a]

def isSh (a : AV) (sh : Sh) : Bool :=
  match a.sh with
  | some s => s.beq sh
  | none => false

def loadPart (sh t : Sh) (x : AV) (o : Nat) (k : AV → Prop) : Prop :=
  match Nat.beq o 0 && t.beq sh with
  | true => force x k
  | false =>
    match x with
    | .agg cs =>
      match t with
      | .leaf => match cs[o]? with
        | some a => force a k
        | none => False
      | .agg n => match Nat.ble (o + n) cs.length with
        | true => k (.agg ((cs.drop o).take n))
        | false => False
    | _ => False

def storePart (sh t : Sh) (e : AV) (o : Nat) (x : AV) (k : AV → Prop) : Prop :=
  match Nat.beq o 0 && t.beq sh with
  | true => k x
  | false =>
    match e with
    | .agg cs =>
      match t with
      | .leaf => match Nat.ble (o + 1) cs.length with
        | true => k (.agg (cs.set o x))
        | false => False
      | .agg n => match Nat.ble (o + n) cs.length with
        | true => k (.agg (cs.take o ++ (x.cells ++ cs.drop (o + n))))
        | false => False
    | _ => False

def kindBeq : IntKind → IntKind → Bool
  | .i8, .i8 | .i16, .i16 | .i32, .i32 | .i64, .i64 | .u8, .u8 | .u16, .u16 | .u32, .u32 | .u64, .u64 => true
  | _, _ => false

def bitop (op : BinOp) (k : IntKind) (x y : Int) : Int :=
  let a := BitVec.ofInt k.bits x
  let b := BitVec.ofInt k.bits y
  match op with
  | .and => k.wrap (a &&& b).toNat
  | .or => k.wrap (a ||| b).toNat
  | .xor => k.wrap (a ^^^ b).toNat
  | _ => k.wrap (a &&& ~~~b).toNat

def aopInt (op : BinOp) (k : IntKind) (a b : Int) (next : AV → Prop) : Prop :=
  match op with
  | .add => NW k (a + b) fun z => next (.int k z)
  | .sub => NW k (a - b) fun z => next (.int k z)
  | .mul => NW k (a * b) fun z => next (.int k z)
  | .quo => NP (b ≠ 0) (NW k (a.tdiv b) fun z => next (.int k z))
  | .rem => NP (b ≠ 0) (next (.int k (a.tmod b)))
  | .and => next (.int k (bitop .and k a b))
  | .or => next (.int k (bitop .or k a b))
  | .xor => next (.int k (bitop .xor k a b))
  | .andNot => next (.int k (bitop .andNot k a b))
  | .eql => ND (a = b) (next (.bool true)) (next (.bool false))
  | .neq => ND (a = b) (next (.bool false)) (next (.bool true))
  | .lss => ND (a < b) (next (.bool true)) (next (.bool false))
  | .leq => ND (a ≤ b) (next (.bool true)) (next (.bool false))
  | .gtr => ND (b < a) (next (.bool true)) (next (.bool false))
  | .geq => ND (b ≤ a) (next (.bool true)) (next (.bool false))
  | _ => False

def leafEqA : Nat → AV → AV → Option Bool
  | 0, .int j a, .int k b => match kindBeq j k with
    | true => some (decide (a = b))
    | false => none
  | 1, .str a, .str b => some (decide (a = b))
  | 2, .bool a, .bool b => some (a == b)
  | _, _, _ => none
def allEqA : List Nat → List AV → List AV → Option Bool
  | [], [], [] => some true
  | c :: cs, x :: r, y :: q => match leafEqA c x y with
    | some c => match allEqA cs r q with
      | some d => some (c && d)
      | none => none
    | none => none
  | _, _, _ => none

def aopBin (op : BinOp) (kd : TK) (x y : AV) (next : AV → Prop) : Prop :=
  match x with
  | .int ka a =>
    match y with
    | .int kb b =>
      match op with
      | .shl => NP (0 ≤ b) (next (.int ka (ka.wrap (a * 2 ^ (min b.toNat ka.bits)))))
      | .shr => NP (0 ≤ b) (next (.int ka (a.fdiv (2 ^ (min b.toNat ka.bits)))))
      | _ => match kindBeq ka kb with
        | true => aopInt op ka a b next
        | false => False
    | _ => False
  | .str a =>
    match y with
    | .str b =>
      match op with
      | .add => NP (((a.length + b.length : Nat) : Int) ≤ IntKind.i64.max) (next (.str (a ++ b)))
      | .eql => ND (a = b) (next (.bool true)) (next (.bool false))
      | .neq => ND (a = b) (next (.bool false)) (next (.bool true))
      | .lss => ND (Op.bytesLess a b = true) (next (.bool true)) (next (.bool false))
      | .leq => ND ((Op.bytesLess a b || decide (a = b)) = true) (next (.bool true)) (next (.bool false))
      | .gtr => ND ((Op.bytesLess a b || decide (a = b)) = true) (next (.bool false)) (next (.bool true))
      | .geq => ND (Op.bytesLess a b = true) (next (.bool false)) (next (.bool true))
      | _ => False
    | _ => False
  | .bool a =>
    match y with
    | .bool b =>
      match kd with
      | .bool =>
        match op with
        | .eql => ND ((a == b) = true) (next (.bool true)) (next (.bool false))
        | .neq => ND ((a == b) = true) (next (.bool false)) (next (.bool true))
        | _ => False
      | _ => False
    | _ => False
  | .agg xs =>
    match y with
    | .agg ys =>
      match kd with
      | .struct _ (some ks) =>
        match allEqA ks xs ys with
        | some c =>
          match op with
          | .eql => ND (c = true) (next (.bool true)) (next (.bool false))
          | .neq => ND (c = true) (next (.bool false)) (next (.bool true))
          | _ => False
        | none => False
      | _ => False
    | _ => False
  | .nils =>
    match y with
    | .nils =>
      match kd with
      | .slice _ =>
        match op with
        | .eql => next (.bool true)
        | .neq => next (.bool false)
        | _ => False
      | _ => False
    | _ => False
  | .list _ l =>
    match y with
    | .nils =>
      match kd with
      | .slice _ =>
        match op with
        | .eql => NN l (next (.bool true)) (next (.bool false))
        | .neq => NN l (next (.bool false)) (next (.bool true))
        | _ => False
      | _ => False
    | _ => False
  | _ => False

def aopUn (op : UnOp) (x : AV) (next : AV → Prop) : Prop :=
  match op with
  | .not => match x with
    | .bool b => NB b (next (.bool false)) (next (.bool true))
    | _ => False
  | .neg => match x with
    | .int k n => NW k (0 - n) fun z => next (.int k z)
    | _ => False
  | .xor => match x with
    | .int k n => next (.int k (bitop .xor k (if k.signed then -1 else k.max) n))
    | _ => False
  | _ => False

def byteOf : AV → UInt8
  | .int _ n => UInt8.ofNat n.toNat
  | _ => 0
def isByte (a : AV) : Prop := ∃ n, a = .int .u8 n

def setCells (cs : List AV) (off : Nat) : List AV → List AV
  | [] => cs
  | x :: r => setCells (cs.set off x) (off + 1) r

/-- The parts of a composite of a struct. -/
noncomputable def fillA (fr : Fr) (fs : List (Nat × Sh)) (cs : List AV) (ps : List (Nat × Operand)) (k : List AV → Prop) : Prop :=
  List.rec (motive := fun _ => List AV → (List AV → Prop) → Prop) (fun cs k => k cs)
    (fun p _ ih cs k => match fs[p.1]? with
      | some (off, sh) => match isSh (ev fr p.2) sh && Nat.ble (off + sh.size) cs.length with
        | true => force (ev fr p.2) fun a => ih (setCells cs off a.cells) k
        | false => False
      | none => False) ps cs k
theorem fillA_nil (fr : Fr) (fs : List (Nat × Sh)) (cs : List AV) (k : List AV → Prop) : fillA fr fs cs [] k = k cs := rfl
theorem fillA_cons (fr : Fr) (fs : List (Nat × Sh)) (cs : List AV) (i : Nat) (x : Operand) (rest : List (Nat × Operand)) (k : List AV → Prop) : fillA fr fs cs ((i, x) :: rest) k = match fs[i]? with
    | some (off, sh) => match isSh (ev fr x) sh && Nat.ble (off + sh.size) cs.length with
      | true => force (ev fr x) fun a => fillA fr fs (setCells cs off a.cells) rest k
      | false => False
    | none => False := rfl

/-- The parts of a composite of a slice. -/
noncomputable def fillS (fr : Fr) (sh : Sh) (es : List AV) (ps : List (Nat × Operand)) (k : List AV → Prop) : Prop :=
  List.rec (motive := fun _ => List AV → (List AV → Prop) → Prop) (fun es k => k es)
    (fun p _ ih es k => match isSh (ev fr p.2) sh && ((ev fr p.2).pure && Nat.ble (p.1 + 1) es.length) with
      | true => force (ev fr p.2) fun a => ih (es.set p.1 a) k
      | false => False) ps es k
theorem fillS_nil (fr : Fr) (sh : Sh) (es : List AV) (k : List AV → Prop) : fillS fr sh es [] k = k es := rfl
theorem fillS_cons (fr : Fr) (sh : Sh) (es : List AV) (i : Nat) (x : Operand) (rest : List (Nat × Operand)) (k : List AV → Prop) : fillS fr sh es ((i, x) :: rest) k = match isSh (ev fr x) sh && ((ev fr x).pure && Nat.ble (i + 1) es.length) with
    | true => force (ev fr x) fun a => fillS fr sh (es.set i a) rest k
    | false => False := rfl

/-- What a slice value holds. -/
def elemsOf (H : List Blk) (sh : Sh) (a : AV) (k : List AV → Prop) : Prop :=
  match a with
  | .nils => k []
  | .list s l => match s.beq sh with
    | true => k l
    | false => False
  | .own id off len => match H[id]? with
    | some (.row kk s es) => match kk with
      | .box => False
      | _ => match s.beq sh with
        | true => NP (off + len ≤ es.length) (k ((es.drop off).take len))
        | false => False
    | _ => False
  | _ => False

inductive NApp (H : List Blk) (id off len : Nat) (kk : RK) (sh : Sh) (es xs : List AV) (bytes : Nat) (next : AV → List Blk → Prop) : Prop
  | endd (h0 : off = 0) (h1 : len = es.length) (hb : (es.length + xs.length) * bytes ≤ 2 ^ 46)
      (hn : next (.own H.length 0 (es ++ xs).length) (H.set id .dead ++ [.row kk sh (es ++ xs)]))
  | ro (h0 : off = 0) (h1 : len = es.length) (hb : (es.length + xs.length) * bytes ≤ 2 ^ 46) (hn : next (.list sh (es ++ xs)) (H.set id (.ro sh es)))
  | inpl (h1 : off + len + xs.length ≤ es.length)
      (hn : next (.own id off (len + xs.length)) (H.set id (.row kk sh (es.take (off + len) ++ (xs ++ es.drop (off + len + xs.length))))))

/-- xs are appended to the slice s. -/
def aopGo (H : List Blk) (sh : Sh) (bytes : Nat) (s : AV) (next : AV → List Blk → Prop) (xs : List AV) : Prop :=
  match s with
  | .nils => NP (xs.length * bytes ≤ 2 ^ 46) (next (.own H.length 0 xs.length) (H ++ [.row .vrow sh xs]))
  | .own id off len => match H[id]? with
    | some (.row kk s es) => match kk with
      | .box => False
      | _ => match s.beq sh with
        | true => NApp H id off len kk sh es xs bytes next
        | false => False
    | _ => False
  | _ => False

/-- New memory is owned, or a list that nobody writes. -/
inductive NMk (A B : Prop) : Prop
  | own (h : A)
  | lst (h : B)

/-- An answer that is an owned row may become a list at once. -/
inductive NFz (F : (AV → List Blk → Prop) → Prop) (next : AV → List Blk → Prop) : Prop
  | own (h : F next)
  | frz (h : F fun r H' => ∃ id off len kk sh es l, r = .own id off len ∧ H'[id]? = some (.row kk sh es) ∧ kk ≠ .box ∧ off + len ≤ es.length ∧ l = (es.drop off).take len ∧ next (.list sh l) (H'.set id (.ro sh es)))

def aopAppend {P : Program} (Γ : Tab P) (H : List Blk) (t0 t1 : TypeId) (s x : AV) (next : AV → List Blk → Prop) : Prop :=
  match tget Γ.tbl t0 with
  | some ⟨_, _, .slice e, _⟩ =>
    match tget Γ.tbl e with
    | some ⟨sh, bytes, _, zero⟩ =>
      match isSh zero sh && (Nat.ble 1 bytes && Nat.ble 1 sh.size) with
      | true =>
        match tget Γ.tbl t1 with
        | some ⟨_, _, .str, _⟩ => match x with
          | .str b => match sh with
            | .leaf => aopGo H sh bytes s next (b.map fun c => .int .u8 c.toNat)
            | _ => False
          | _ => False
        | some ⟨_, _, .int _, _⟩ => match x with
          | .int _ n => match zero.pure with
            | true => NP (0 ≤ n ∧ n * bytes ≤ 2 ^ 46) (aopGo H sh bytes s next (List.replicate n.toNat zero))
            | false => False
          | _ => False
        | some ⟨_, _, .slice _, _⟩ => elemsOf H sh x (aopGo H sh bytes s next)
        | _ => False
      | false => False
    | none => False
  | _ => False

def intA (a : AV) (k : Int → Prop) : Prop :=
  match a with
  | .int _ n => k n
  | _ => False

def foldMax : List AV → Option Int → Option Int
  | [], r => r
  | .int .i64 n :: l, none => foldMax l (some n)
  | .int .i64 n :: l, some m => foldMax l (some (max m n))
  | _, _ => none
def foldMin : List AV → Option Int → Option Int
  | [], r => r
  | .int .i64 n :: l, none => foldMin l (some n)
  | .int .i64 n :: l, some m => foldMin l (some (min m n))
  | _, _ => none

/-- A row that is cut so that an append goes elsewhere: a list, or a row of its own. -/
inductive NCut (A B : Prop) : Prop
  | lst (h : A)
  | own (h : B)

def allLeaf : List (Nat × Sh) → Bool
  | [] => true
  | (_, .leaf) :: r => allLeaf r
  | _ => false

/-- Is a key of a map the same? -/
def keyEq (ks : List Nat) (a b : AV) : Option Bool :=
  match a with
  | .agg xs => match b with
    | .agg ys => allEqA ks xs ys
    | _ => none
  | _ => none

def keyAgg (ks : List Nat) (a : AV) (k : AV → Prop) : Prop :=
  match a with
  | .agg cs => match Nat.beq cs.length ks.length with
    | true => k (.agg cs)
    | false => False
  | _ => False

/-- Where a key stands in a map. -/
inductive NFind (ks : List Nat) (es : List (AV × AV)) (key : AV) (T : Nat → AV → Prop) (E : Prop) : Prop
  | hit (i : Nat) (k v : AV) (h : es[i]? = some (k, v)) (he : keyEq ks key k = some true) (ha : ∀ j, j < i → ∀ (k' v' : AV), es[j]? = some (k', v') → keyEq ks key k' = some false) (hn : T i v)
  | miss (ha : ∀ (j : Nat) (k' v' : AV), es[j]? = some (k', v') → keyEq ks key k' = some false) (hn : E)

/-- What a call comes to. -/
def ACalls (P : Program) (f : FuncId) (args : List AV) (H : List Blk) (r : AV) (H' : List Blk) : Prop :=
  (∃ fn, P.funcs[f]? = some fn ∧ fn.body.isSome = true ∧ (fn.name == "runtime.NumGoroutine") = false) ∧
  ∀ (C : Ctx), C.H = H → HRep C → ∀ cargs : Array Value, cargs.size = args.length → (∀ (i : Nat) (h : i < args.length), RA C (cargs.getD i undef) args[i]) →
    Calls P f cargs C.w fun e w' => ∃ v C', e = .returned v ∧ C'.w = w' ∧ C'.H = H' ∧ Ext C C' ∧ HRep C' ∧ RT C' v r

inductive NCall (P : Program) (f : FuncId) (args : List AV) (H : List Blk) (next : AV → List Blk → Prop) : Prop
  | mk (r : AV) (H' : List Blk) (h : ACalls P f args H r H') (hn : next r H')

noncomputable def evArgs (fr : Fr) (l : List Operand) (k : List AV → Prop) : Prop :=
  List.rec (motive := fun _ => (List AV → Prop) → Prop) (fun k => k []) (fun x _ ih k => force (ev fr x) fun a => ih fun as => k (a :: as)) l k
noncomputable def evArgsT (fr : Fr) (H : List Blk) (l : List Operand) (k : List AV → Prop) : Prop :=
  List.rec (motive := fun _ => (List AV → Prop) → Prop) (fun k => k []) (fun x _ ih k => forceT H (ev fr x) fun a => ih fun as => k (a :: as)) l k
theorem evArgsT_nil (fr : Fr) (H : List Blk) (k : List AV → Prop) : evArgsT fr H [] k = k [] := rfl
theorem evArgsT_cons (fr : Fr) (H : List Blk) (x : Operand) (r : List Operand) (k : List AV → Prop) : evArgsT fr H (x :: r) k = forceT H (ev fr x) fun a => evArgsT fr H r fun as => k (a :: as) := rfl
theorem evArgs_nil (fr : Fr) (k : List AV → Prop) : evArgs fr [] k = k [] := rfl
theorem evArgs_cons (fr : Fr) (x : Operand) (r : List Operand) (k : List AV → Prop) : evArgs fr (x :: r) k = force (ev fr x) fun a => evArgs fr r fun as => k (a :: as) := rfl

noncomputable def aop {P : Program} (Γ : Tab P) (fr : Fr) (op : Op) (H : List Blk) (next : AV → List Blk → Prop) : Prop :=
  match op with
  | .move x => force (ev fr x) fun a => next a H
  | .assign x => force (ev fr x) fun a => next a H
  | .pick c a b => match ev fr c with
    | .bool q => NB q (force (ev fr a) fun r => next r H) (force (ev fr b) fun r => next r H)
    | _ => False
  | .alloc t => match tget Γ.tbl t with
    | some ⟨sh, _, _, z⟩ => match isSh z sh && Nat.ble 1 sh.size with
      | true => next (.ptr H.length 0 0) (H ++ [.row .box sh [z]])
      | false => False
    | none => False
  | .box t x => match tget Γ.tbl t with
    | some ⟨sh, _, _, _⟩ => match isSh (ev fr x) sh && Nat.ble 1 sh.size with
      | true => force (ev fr x) fun a => next (.ptr H.length 0 0) (H ++ [.row .box sh [a]])
      | false => False
    | none => False
  | .build t parts => match tget Γ.tbl t with
    | some ⟨.agg _, _, .struct fs _, .agg z⟩ => fillA fr fs z parts.toList fun cs => next (.agg cs) H
    | _ => False
  | .buildSlice t len parts => match tget Γ.tbl t with
    | some ⟨_, _, .slice e, _⟩ => match tget Γ.tbl e with
      | some ⟨sh, _, kd, z⟩ => match (isSh z sh && z.pure) && (Nat.ble (len * sh.size) (2 ^ 24) && Nat.ble 1 sh.size) with
        | true => match len with
          | 0 => match parts.toList with
            | [] => next (.own H.length 0 0) (H ++ [.row .vrow sh []])
            | _ => False
          | n + 1 => fillS fr sh (List.replicate (n + 1) z) parts.toList fun es => match kd with
            | .int .u8 => NMk (next (.own H.length 0 (n + 1)) (H ++ [.row .row sh es])) (next (.list sh es) H)
            | _ => next (.list sh es) H
        | false => False
      | none => False
    | _ => False
  | .load t a => match tget Γ.tbl t with
    | some ⟨t, _, _, _⟩ => match ev fr a with
      | .ptr id i o => match H[id]? with
        | some (.row .box sh [x]) => match i with
          | 0 => loadPart sh t x o fun a => next a H
          | _ => False
        | some (.row .row sh es) => NG es i fun x => loadPart sh t x o fun a => next a H
        | some (.row .vrow sh es) => NG es i fun x => loadPart sh t x o fun a => next a H
        | _ => False
      | .at sh x o => loadPart sh t x o fun a => next a H
      | _ => False
    | none => False
  | .store t a x => match tget Γ.tbl t with
    | some ⟨t, _, _, _⟩ => match ev fr a with
      | .ptr id i o => match isSh (ev fr x) t with
        | true => match H[id]? with
          | some (.row .box sh [e]) => match i with
            | 0 => force (ev fr x) fun y => storePart sh t e o y fun e' => next .undef (H.set id (.row .box sh [e']))
            | _ => False
          | some (.row .row sh es) => match (ev fr x).pure with
            | true => NG es i fun e => force (ev fr x) fun y => storePart sh t e o y fun e' => next .undef (H.set id (.row .row sh (es.set i e')))
            | false => False
          | some (.row .vrow sh es) => match (ev fr x).pure with
            | true => NG es i fun e => force (ev fr x) fun y => storePart sh t e o y fun e' => next .undef (H.set id (.row .vrow sh (es.set i e')))
            | false => False
          | _ => False
        | false => False
      | _ => False
    | none => False
  | .nilCheck x => match ev fr x with
    | .ptr id i o => match H[id]? with
      | some (.row _ _ _) => next (.ptr id i o) H
      | _ => False
    | .at sh x o => next (.at sh x o) H
    | _ => False
  | .binOp op t x y _ => match tget Γ.tbl t with
    | some ⟨_, _, k, _⟩ => aopBin op k (ev fr x) (ev fr y) fun r => next r H
    | none => False
  | .unOp op _ x => aopUn op (ev fr x) fun r => next r H
  | .convert src dst x => match tget Γ.tbl dst with
    | some ⟨_, _, .int k, _⟩ => match ev fr x with
      | .int _ n => match tget Γ.tbl src with
        | some ⟨_, _, .int _, _⟩ => NW k n fun z => next (.int k z) H
        | _ => False
      | _ => False
    | some ⟨_, _, .str, _⟩ => match tget Γ.tbl src with
      | some ⟨_, _, .str, _⟩ => match ev fr x with
        | .str s => next (.str s) H
        | _ => False
      | some ⟨_, _, .slice e, _⟩ => match tget Γ.tbl e with
        | some ⟨_, _, .int .u8, _⟩ => elemsOf H .leaf (thaw H (ev fr x)) fun l => NP (∀ a ∈ l, isByte a) (next (.str (l.map byteOf)) H)
        | _ => False
      | _ => False
    | some ⟨_, _, .slice e, _⟩ => match tget Γ.tbl src with
      | some ⟨_, _, .str, _⟩ => match tget Γ.tbl e with
        | some ⟨_, _, .int .u8, _⟩ => match ev fr x with
          | .str s => NP (s.length ≤ 2 ^ 46) (next (.own H.length 0 s.length) (H ++ [.row .row .leaf (s.map fun c => .int .u8 c.toNat)]))
          | _ => False
        | _ => False
      | some ⟨_, _, .slice _, _⟩ => match Nat.beq src dst with
        | true => match tget Γ.tbl e with
          | some ⟨_, _, .int .u8, _⟩ => match ev fr x with
            | .own id off len => match H[id]? with
              | some (.row .row _ _) => next (.own id off len) H
              | _ => False
            | _ => False
          | _ => False
        | false => False
      | _ => False
    | _ => False
  | .makeFunc fn first caps => match fn with
    | .func f => match first.toList with
      | [] => evArgs fr caps.toList fun as => match as.all AV.leafy with
        | true => next (.fn f as) H
        | false => False
      | _ => False
    | _ => False
  | .makeMap _ none => next (.map H.length) (H ++ [.map []])
  | .lookup t x ix ok => match tget Γ.tbl t with
    | some ⟨_, _, .map kt et, _⟩ => match tget Γ.tbl kt with
      | some ⟨_, _, .struct fs (some ks), _⟩ => match tget Γ.tbl et with
        | some ⟨sh, _, _, z⟩ => match ev fr x with
          | .map id => match isSh z sh && ((ev fr ix).pure && allLeaf fs) with
            | true => match H[id]? with
              | some (.map es) => match ok with
                | true => keyAgg ks (ev fr ix) fun key => NFind ks es key (fun _ v => force v fun v => next (.tup [v, .bool true]) H) (next (.tup [z, .bool false]) H)
                | false => keyAgg ks (ev fr ix) fun key => NFind ks es key (fun _ v => force v fun v => next v H) (next z H)
              | _ => False
            | false => False
          | _ => False
        | none => False
      | _ => False
    | _ => False
  | .mapUpdate t x ix y => match tget Γ.tbl t with
    | some ⟨_, _, .map kt _, _⟩ => match tget Γ.tbl kt with
      | some ⟨_, _, .struct fs (some ks), _⟩ => match ev fr x with
        | .map id => match (ev fr ix).pure && ((ev fr y).pure && allLeaf fs) with
          | true => match H[id]? with
            | some (.map es) => keyAgg ks (ev fr ix) fun key => force (ev fr y) fun v => NFind ks es key (fun i _ => next .undef (H.set id (.map (es.set i (key, v))))) (next .undef (H.set id (.map (es ++ [(key, v)]))))
            | _ => False
          | false => False
        | _ => False
      | _ => False
    | _ => False
  | .makeSlice t l c => match tget Γ.tbl t with
    | some ⟨_, _, .slice e, _⟩ => match tget Γ.tbl e with
      | some ⟨sh, bytes, _, z⟩ => match (isSh z sh && z.pure) && Nat.ble 1 sh.size with
        | true => intA (ev fr l) fun n => intA (ev fr c) fun m =>
            NP (m = n ∧ 0 ≤ n ∧ n * bytes ≤ 2 ^ 48 ∧ n ≤ 2 ^ 48) (NMk (next (.own H.length 0 n.toNat) (H ++ [.row .row sh (List.replicate n.toNat z)])) (next (.list sh (List.replicate n.toNat z)) H))
        | false => False
      | none => False
    | _ => False
  | .slice t x lo hi mx => match tget Γ.tbl t with
    | some ⟨_, _, k, _⟩ => match thaw H (ev fr x) with
      | .str s => match k, mx with
        | .str, none => match lo with
          | none => match hi with
            | none => next (.str s) H
            | some hi => intA (ev fr hi) fun h => NP (0 ≤ h ∧ h.toNat ≤ s.length) (next (.str (s.take h.toNat)) H)
          | some lo => match hi with
            | none => intA (ev fr lo) fun l => NP (0 ≤ l ∧ l.toNat ≤ s.length) (next (.str (s.drop l.toNat)) H)
            | some hi => intA (ev fr lo) fun l => intA (ev fr hi) fun h => NP (0 ≤ l ∧ l ≤ h ∧ h.toNat ≤ s.length) (next (.str ((s.take h.toNat).drop l.toNat)) H)
        | _, _ => False
      | .nils => match k, mx with
        | .slice e, none => match tget Γ.tbl e with
          | some _ => match lo with
            | none => match hi with
              | none => next .nils H
              | some hi => intA (ev fr hi) fun h => NP (h = 0) (next .nils H)
            | some lo => match hi with
              | none => intA (ev fr lo) fun l => NP (l = 0) (next .nils H)
              | some hi => intA (ev fr lo) fun l => intA (ev fr hi) fun h => NP (l = 0 ∧ h = 0) (next .nils H)
          | none => False
        | .slice e, some mx => match tget Γ.tbl e with
          | some _ => match lo with
            | none => match hi with
              | none => False
              | some hi => intA (ev fr hi) fun h => intA (ev fr mx) fun m => NP (h = 0 ∧ m = 0) (next .nils H)
            | some lo => match hi with
              | none => False
              | some hi => intA (ev fr lo) fun l => intA (ev fr hi) fun h => intA (ev fr mx) fun m => NP (l = 0 ∧ h = 0 ∧ m = 0) (next .nils H)
          | none => False
        | _, _ => False
      | .list sh s => match k with
        | .slice e => match tget Γ.tbl e with
          | some ⟨shE, _, _, _⟩ => match shE.beq sh with
            | true => match mx with
              | none => match lo with
                | none => match hi with
                  | none => next (.list sh s) H
                  | some hi => intA (ev fr hi) fun h => NP (0 ≤ h ∧ h.toNat ≤ s.length) (next (.list sh (s.take h.toNat)) H)
                | some lo => match hi with
                  | none => intA (ev fr lo) fun l => NP (0 ≤ l ∧ l.toNat ≤ s.length) (next (.list sh (s.drop l.toNat)) H)
                  | some hi => intA (ev fr lo) fun l => intA (ev fr hi) fun h => NP (0 ≤ l ∧ l ≤ h ∧ h.toNat ≤ s.length) (next (.list sh ((s.take h.toNat).drop l.toNat)) H)
              | some mx => match lo with
                | none => match hi with
                  | none => False
                  | some hi => intA (ev fr hi) fun h => intA (ev fr mx) fun m => NP (0 ≤ h ∧ h ≤ m ∧ m.toNat ≤ s.length) (next (.list sh (s.take h.toNat)) H)
                | some lo => match hi with
                  | none => False
                  | some hi => intA (ev fr lo) fun l => intA (ev fr hi) fun h => intA (ev fr mx) fun m => NP (0 ≤ l ∧ l ≤ h ∧ h ≤ m ∧ m.toNat ≤ s.length) (next (.list sh ((s.take h.toNat).drop l.toNat)) H)
            | false => False
          | none => False
        | _ => False
      | .own id off len => match k with
        | .slice e => match tget Γ.tbl e with
          | some ⟨shE, _, _, _⟩ => match H[id]? with
            | some (.row kk sh es) => match kk with
              | .box => False
              | _ => match shE.beq sh with
                | true => match mx with
                  | none => match lo with
                    | none => match hi with
                      | none => next (.own id off len) H
                      | some hi => intA (ev fr hi) fun h => NP (0 ≤ h ∧ off + h.toNat ≤ es.length) (next (.own id off h.toNat) H)
                    | some lo => match hi with
                      | none => intA (ev fr lo) fun l => NSl l len (next (.own id (off + l.toNat) (len - l.toNat)) H) (next (.list sh []) H)
                      | some hi => intA (ev fr lo) fun l => intA (ev fr hi) fun h => NP (0 ≤ l ∧ l ≤ h ∧ off + h.toNat ≤ es.length) (NSl l (es.length - off) (next (.own id (off + l.toNat) (h.toNat - l.toNat)) H) (next (.list sh []) H))
                  | some mx => match lo with
                    | none => match hi with
                      | none => False
                      | some hi => intA (ev fr hi) fun h => intA (ev fr mx) fun m => NP (0 ≤ h ∧ h ≤ m ∧ off + m.toNat ≤ es.length)
                          (NCut (next (.list sh ((es.drop off).take h.toNat)) (H.set id (.ro sh es))) (NP (off = 0 ∧ m = h) (next (.own H.length 0 h.toNat) (H.set id .dead ++ [.row kk sh (es.take h.toNat)]))))
                    | some lo => match hi with
                      | none => False
                      | some hi => intA (ev fr lo) fun l => intA (ev fr hi) fun h => intA (ev fr mx) fun m => NP (0 ≤ l ∧ l ≤ h ∧ h ≤ m ∧ off + m.toNat ≤ es.length) (next .undef H)
                | false => False
            | _ => False
          | none => False
        | _ => False
      | _ => False
    | none => False
  | .fieldAddr t x f => match tget Γ.tbl t with
    | some ⟨_, _, .struct fs _, _⟩ => match fs[f]? with
      | some (off, sh) => match sh.size with
        | 0 => False
        | _ => match ev fr x with
          | .ptr id i o => match H[id]? with
            | some (.row _ _ _) => next (.ptr id i (o + off)) H
            | _ => False
          | .at sh x o => next (.at sh x (o + off)) H
          | _ => False
      | none => False
    | _ => False
  | .field t x f => match tget Γ.tbl t with
    | some ⟨_, _, .struct fs _, _⟩ => match fs[f]? with
      | some (off, sh) => match ev fr x with
        | .agg cs => match sh with
          | .leaf => match cs[off]? with
            | some a => force a fun r => next r H
            | none => False
          | .agg n => match Nat.ble (off + n) cs.length with
            | true => next (.agg ((cs.drop off).take n)) H
            | false => False
        | _ => False
      | none => False
    | _ => False
  | .indexAddr t x ix => match tget Γ.tbl t with
    | some ⟨_, _, .slice e, _⟩ => match tget Γ.tbl e with
      | some ⟨shE, _, _, _⟩ => match thaw H (ev fr x) with
        | .list sh l => match shE.beq sh with
          | true => intA (ev fr ix) fun i => NP (0 ≤ i) (NG l i.toNat fun a => next (.at sh a 0) H)
          | false => False
        | .own id off len => match H[id]? with
          | some (.row kk sh es) => match kk with
            | .box => False
            | _ => match shE.beq sh with
              | true => intA (ev fr ix) fun i => NP (0 ≤ i ∧ i < len ∧ off + len ≤ es.length) (next (.ptr id (off + i.toNat) 0) H)
              | false => False
          | _ => False
        | _ => False
      | none => False
    | _ => False
  | .index t x ix => match tget Γ.tbl t with
    | some ⟨_, _, .str, _⟩ => match ev fr x with
      | .str s => intA (ev fr ix) fun i => NP (0 ≤ i ∧ i.toNat < s.length) (next (.int .u8 ((s.getD i.toNat 0).toNat)) H)
      | _ => False
    | _ => False
  | .extract x i => match ev fr x with
    | .tup vs => match vs[i]? with
      | some a => force a fun r => next r H
      | none => False
    | _ => False
  | .call c => match c.callee with
    | .value f => match ev fr f with
      | .fn g caps => evArgsT fr H c.args.toList fun as => match as.all AV.noTup with
        | true => NCall P g (as ++ caps) H next
        | false => False
      | _ => False
    | .builtin b => match b with
      | .len => match c.argTypes.toList, c.args.toList with
        | [t], [x] => match tget Γ.tbl t, thaw H (ev fr x) with
          | some ⟨_, _, .str, _⟩, .str s => next (.int .i64 s.length) H
          | some ⟨_, _, .slice _, _⟩, .nils => next (.int .i64 0) H
          | some ⟨_, _, .slice _, _⟩, .list _ l => next (.int .i64 l.length) H
          | some ⟨_, _, .slice _, _⟩, .own id _ len => match H[id]? with
            | some (.row _ _ _) => next (.int .i64 len) H
            | _ => False
          | _, _ => False
        | _, _ => False
      | .cap => match c.argTypes.toList, c.args.toList with
        | [t], [x] => match tget Γ.tbl t, ev fr x with
          | some ⟨_, _, .slice _, _⟩, .nils => next (.int .i64 0) H
          | _, _ => False
        | _, _ => False
      | .max => evArgs fr c.args.toList fun as => match foldMax as none with
        | some n => next (.int .i64 n) H
        | none => False
      | .min => evArgs fr c.args.toList fun as => match foldMin as none with
        | some n => next (.int .i64 n) H
        | none => False
      | .append => match c.argTypes.toList, c.args.toList with
        | [t0, t1], [s, x] => NFz (aopAppend Γ H t0 t1 (ev fr s) (thaw H (ev fr x))) next
        | _, _ => False
      | .clear => match c.argTypes.toList, c.args.toList with
        | [t], [x] => match tget Γ.tbl t with
          | some ⟨_, _, .slice e, _⟩ => match tget Γ.tbl e with
            | some ⟨sh, _, _, z⟩ => match ev fr x with
              | .nils => next .undef H
              | .list _ l => NP (l = []) (next .undef H)
              | .own id off len => match isSh z sh && z.pure with
                | true => match H[id]? with
                  | some (.row kk s es) => match kk with
                    | .box => False
                    | _ => match s.beq sh with
                      | true => next .undef (H.set id (.row kk sh (es.take off ++ (List.replicate len z ++ es.drop (off + len)))))
                      | false => False
                  | _ => False
                | false => False
              | _ => False
            | none => False
          | _ => False
        | _, _ => False
      | _ => False
    | _ => False
  | _ => False

/-- Is a guarded operation wanted? -/
def aWanted (ops : List Oper) (fr : Fr) (g : Option (Nat × Bool)) (T E : Prop) : Prop :=
  match g with
  | none => T
  | some (j, want) => match ops[j]? with
    | some o => match o.dst with
      | some d => match fr.get d with
        | .bool b => match want with
          | true => NB b T E
          | false => NB b E T
        | .tup vs => match vs with
          | [] => E
          | _ => False
        | _ => False
      | none => False
    | none => False

def dstOk (n : Nat) : Option Tmp → Bool
  | none => true
  | some d => Nat.blt d n

-- what an operation leaves, in plain form: the blocks' spine and the answer's number (else each look at a block goes through all that was done)
def numK (n : Nat) (k : Nat → Prop) : Prop :=
  Nat.rec (motive := fun _ => (Nat → Prop) → Prop) (fun k => k 0) (fun _ ih k => ih fun m => k (Nat.succ m)) n k
theorem numK_eq : ∀ (n : Nat) (k : Nat → Prop), numK n k = k n
  | 0, _ => rfl
  | n + 1, k => numK_eq n fun m => k (Nat.succ m)
def nrmH (H : List Blk) (k : List Blk → Prop) : Prop :=
  List.rec (motive := fun _ => (List Blk → Prop) → Prop) (fun k => k []) (fun b _ ih k => ih fun r => k (b :: r)) H k
theorem nrmH_eq : ∀ (H : List Blk) (k : List Blk → Prop), nrmH H k = k H
  | [], _ => rfl
  | b :: r, k => nrmH_eq r fun r => k (b :: r)
def nrmV (r : AV) (k : AV → Prop) : Prop := match r with
  | .ptr id i o => numK id fun id => k (.ptr id i o)
  | .own id off len => numK id fun id => k (.own id off len)
  | .map id => numK id fun id => k (.map id)
  | r => k r
theorem nrmV_eq (r : AV) (k : AV → Prop) : nrmV r k = k r := by
  unfold nrmV; split <;> first | exact numK_eq _ _ | rfl
def chg (op : Op) : Option Bool := match op with
  | .alloc .. => some true
  | .box .. => some true
  | .buildSlice .. => some true
  | .makeMap .. => some true
  | .makeSlice .. => some true
  | .store .. => some false
  | .mapUpdate .. => some false
  | .slice _ _ _ _ mx => match mx with
    | some _ => some true
    | none => none
  | .call c => match c.callee with
    | .builtin b => match b with
      | .append => some true
      | .clear => some false
      | _ => none
    | _ => some false
  | _ => none
def nrm (op : Op) (r : AV) (H : List Blk) (k : AV → List Blk → Prop) : Prop := match chg op with
  | none => k r H
  | some b => match b with
    | true => nrmV r fun r => nrmH H fun H => k r H
    | false => nrmH H fun H => k r H
theorem nrm_eq (op : Op) (r : AV) (H : List Blk) (k : AV → List Blk → Prop) : nrm op r H k = k r H := by
  unfold nrm
  split
  · rfl
  · split
    · rw [nrmV_eq, nrmH_eq]
    · rw [nrmH_eq]

noncomputable def awpOps {P : Program} (Γ : Tab P) (n : Nat) (ops l : List Oper) (fr : Fr) (H : List Blk) (k : Fr → List Blk → Prop) : Prop :=
  List.rec (motive := fun _ => Fr → List Blk → (Fr → List Blk → Prop) → Prop) (fun fr H k => k fr H)
    (fun o _ ih fr H k => match dstOk n o.dst with
      | true => aWanted ops fr o.guard (aop Γ fr o.op H fun r H' => nrm o.op r H' fun r H' => ih (fr.put o.dst r) H' k) (ih (fr.put o.dst (.tup [])) H k)
      | false => False) l fr H k
theorem awpOps_nil {P : Program} (Γ : Tab P) (n : Nat) (ops : List Oper) (fr : Fr) (H : List Blk) (k : Fr → List Blk → Prop) : awpOps Γ n ops [] fr H k = k fr H := rfl
theorem awpOps_cons {P : Program} (Γ : Tab P) (n : Nat) (ops : List Oper) (o : Oper) (rest : List Oper) (fr : Fr) (H : List Blk) (k : Fr → List Blk → Prop) : awpOps Γ n ops (o :: rest) fr H k = match dstOk n o.dst with
    | true => aWanted ops fr o.guard (aop Γ fr o.op H fun r H' => nrm o.op r H' fun r H' => awpOps Γ n ops rest (fr.put o.dst r) H' k) (awpOps Γ n ops rest (fr.put o.dst (.tup [])) H k)
    | false => False := rfl

inductive AExit where
  | normal
  | exit (id : Nat)
  | ret

abbrev APost := AExit → Fr → List Blk → Prop

-- the state laid anew: what is kept of the owned blocks (S, behind the first n0), and of the slots
def idxIn : List Nat → Nat → Nat → Option Nat
  | [], _, _ => none
  | x :: r, id, j => match Nat.beq x id with
    | true => some j
    | false => idxIn r id (j + 1)
def pos (n0 : Nat) (S : List Nat) (id : Nat) : Option Nat :=
  match Nat.blt id n0 with
  | true => some id
  | false => idxIn S id n0

inductive NFrz (es : List AV) (off len : Nat) (next : List AV → Prop) : Prop
  | mk (l : List AV) (h : off + len ≤ es.length) (hl : l = (es.drop off).take len) (hn : next l)

def cv1 (n0 : Nat) (S : List Nat) (H : List Blk) (a : AV) (k : AV → Prop) : Prop :=
  match a with
  | .own id off len => match pos n0 S id with
    | some j => k (.own j off len)
    | none => match H[id]? with
      | some (.row kk sh es) => match kk with
        | .box => False
        | _ => NFrz es off len fun l => k (.list sh l)
      | some (.ro sh es) => k (.list sh ((es.drop off).take len))
      | _ => k .undef
  | .ptr id i o => match pos n0 S id with
    | some j => k (.ptr j i o)
    | none => k .undef
  | .map id => match pos n0 S id with
    | some j => k (.map j)
    | none => k .undef
  | .fn _ _ => False
  | .agg _ => False
  | .tup _ => False
  | a => force a k
noncomputable def cvs1 (n0 : Nat) (S : List Nat) (H : List Blk) (l : List AV) (k : List AV → Prop) : Prop :=
  List.rec (motive := fun _ => (List AV → Prop) → Prop) (fun k => k []) (fun a _ ih k => cv1 n0 S H a fun a' => ih fun r' => k (a' :: r')) l k
theorem cvs1_nil (n0 : Nat) (S : List Nat) (H : List Blk) (k : List AV → Prop) : cvs1 n0 S H [] k = k [] := rfl
theorem cvs1_cons (n0 : Nat) (S : List Nat) (H : List Blk) (a : AV) (r : List AV) (k : List AV → Prop) : cvs1 n0 S H (a :: r) k = cv1 n0 S H a fun a' => cvs1 n0 S H r fun r' => k (a' :: r') := rfl
noncomputable def cvA (n0 : Nat) (S : List Nat) (H : List Blk) (a : AV) (k : AV → Prop) : Prop :=
  match a with
  | .agg cs => cvs1 n0 S H cs fun cs' => k (.agg cs')
  | .fn f caps => cvs1 n0 S H caps fun cs' => k (.fn f cs')
  | .tup _ => False
  | a => cv1 n0 S H a k
noncomputable def cvsA (n0 : Nat) (S : List Nat) (H : List Blk) (l : List AV) (k : List AV → Prop) : Prop :=
  List.rec (motive := fun _ => (List AV → Prop) → Prop) (fun k => k []) (fun a _ ih k => cvA n0 S H a fun a' => ih fun r' => k (a' :: r')) l k
theorem cvsA_nil (n0 : Nat) (S : List Nat) (H : List Blk) (k : List AV → Prop) : cvsA n0 S H [] k = k [] := rfl
theorem cvsA_cons (n0 : Nat) (S : List Nat) (H : List Blk) (a : AV) (r : List AV) (k : List AV → Prop) : cvsA n0 S H (a :: r) k = cvA n0 S H a fun a' => cvsA n0 S H r fun r' => k (a' :: r') := rfl
noncomputable def cvBlk (n0 : Nat) (S : List Nat) (H : List Blk) (b : Blk) (k : Blk → Prop) : Prop :=
  match b with
  | .row .box sh [x] => cvA n0 S H x fun x' => k (.row .box sh [x'])
  | .row .box _ _ => False
  | b => k b
noncomputable def cvH (n0 : Nat) (S : List Nat) (H : List Blk) (l : List Nat) (k : List Blk → Prop) : Prop :=
  List.rec (motive := fun _ => (List Blk → Prop) → Prop) (fun k => k []) (fun id _ ih k => match H[id]? with
    | some b => cvBlk n0 S H b fun b' => ih fun r' => k (b' :: r')
    | none => False) l k
theorem cvH_nil (n0 : Nat) (S : List Nat) (H : List Blk) (k : List Blk → Prop) : cvH n0 S H [] k = k [] := rfl
theorem cvH_cons (n0 : Nat) (S : List Nat) (H : List Blk) (id : Nat) (r : List Nat) (k : List Blk → Prop) : cvH n0 S H (id :: r) k = match H[id]? with
    | some b => cvBlk n0 S H b fun b' => cvH n0 S H r fun r' => k (b' :: r')
    | none => False := rfl
def nodupB : List Nat → Bool
  | [] => true
  | x :: r => match idxIn r x 0 with
    | none => nodupB r
    | some _ => false
def allGe (n0 : Nat) : List Nat → Bool
  | [] => true
  | x :: r => Nat.ble n0 x && allGe n0 r

/-- Blocks that read as others do, too. -/
inductive BlkLe : Blk → Blk → Prop
  | same (b : Blk) : BlkLe b b
  | row (k : RK) (sh : Sh) {es es' : List AV} (h : LeAs es es') : BlkLe (.row k sh es) (.row k sh es')
  | kill (b : Blk) : BlkLe b .dead
inductive BlksLe : List Blk → List Blk → Prop
  | nil : BlksLe [] []
  | cons {b b' : Blk} {l l' : List Blk} (h : BlkLe b b') (hs : BlksLe l l') : BlksLe (b :: l) (b' :: l')
theorem BlksLe.refl : ∀ l : List Blk, BlksLe l l
  | [] => .nil
  | b :: l => .cons (.same b) (BlksLe.refl l)

/-- The slots' values and the owned blocks, laid anew. -/
inductive Canon (n0 : Nat) (fr : Fr) (H : List Blk) (keep : List Nat) (K : List AV → List Blk → Prop) : Prop
  | mk (S : List Nat) (hS : (nodupB S && allGe n0 S) = true)
      (h : cvsA n0 S H (keep.map fr.get) fun vs => cvH n0 S H (List.range n0 ++ S) fun H' => K vs H')
  | wk (S : List Nat) (vs' : List AV) (hS : (nodupB S && allGe n0 S) = true)
      (h : cvsA n0 S H (keep.map fr.get) fun vs => cvH n0 S H (List.range n0 ++ S) fun H' => LeAs vs vs' ∧ K vs' H')
  | wb (S : List Nat) (vs' : List AV) (H'' : List Blk) (hS : (nodupB S && allGe n0 S) = true)
      (h : cvsA n0 S H (keep.map fr.get) fun vs => cvH n0 S H (List.range n0 ++ S) fun H' => LeAs vs vs' ∧ BlksLe H' H'' ∧ K vs' H'')

def mkFr : List Nat → List AV → Fr
  | k :: r, v :: q => (k, v) :: mkFr r q
  | _, _ => []

/-- Slots that hold nil slices, as empty owned ones. -/
noncomputable def adopt (ad : List (Nat × Sh)) (fr : Fr) (H : List Blk) (k : Fr → List Blk → Prop) : Prop :=
  List.rec (motive := fun _ => Fr → List Blk → (Fr → List Blk → Prop) → Prop) (fun fr H k => k fr H)
    (fun p _ ih fr H k => match fr.get p.1 with
      | .nils => match p.2.size with
        | 0 => False
        | _ => ih ((p.1, .own H.length 0 0) :: fr) (H ++ [.row .vrow p.2 []]) k
      | _ => False) ad fr H k
theorem adopt_nil (fr : Fr) (H : List Blk) (k : Fr → List Blk → Prop) : adopt [] fr H k = k fr H := rfl
theorem adopt_cons (t : Nat) (sh : Sh) (r : List (Nat × Sh)) (fr : Fr) (H : List Blk) (k : Fr → List Blk → Prop) : adopt ((t, sh) :: r) fr H k = match fr.get t with
    | .nils => match sh.size with
      | 0 => False
      | _ => adopt r ((t, .own H.length 0 0) :: fr) (H ++ [.row .vrow sh []]) k
    | _ => False := rfl

/-- Boxes' cells that hold nil slices, as empty owned ones. -/
inductive AdoptB : List Blk → List Blk → Prop
  | nil (H : List Blk) : AdoptB H H
  | cons {H H' : List Blk} {shB sh : Sh} {cs : List AV} (id o : Nat) (hid : H[id]? = some (.row .box shB [.agg cs])) (hcs : cs[o]? = some .nils) (hp : 0 < sh.size)
      (h : AdoptB (H.set id (.row .box shB [.agg (cs.set o (.own H.length 0 0))]) ++ [.row .vrow sh []]) H') : AdoptB H H'

/-- The loop's knot. -/
inductive NLoop (n n0 : Nat) (body : APost → Fr → List Blk → Prop) (Q : APost) (fr : Fr) (H : List Blk) : Prop
  | mk (ad : List (Nat × Sh)) (keep : List Nat) (Inv : Nat → List AV → List Blk → Prop) (hk : keep.all (Nat.blt · n) = true)
      (h0 : adopt ad fr H fun fr H => Canon n0 fr H keep fun vs H' => ∃ m, Inv m vs H')
      (hr : ∀ m vs H, Inv m vs H → body (fun e fr' H' => match e with
        | .normal => Canon n0 fr' H' keep fun vs' H'' => ∃ m', m' < m ∧ Inv m' vs' H''
        | e => Q e fr' H') (mkFr keep vs) H)
  | rl (ad : List (Nat × Sh)) (keep keepX : List Nat) (Inv : Nat → List AV → List Blk → Prop) (hk : keep.all (Nat.blt · n) = true)
      (h0 : adopt ad fr H fun fr H => Canon n0 fr H keep fun vs H' => ∃ m, Inv m vs H')
      (hr : ∀ m vs H, Inv m vs H → body (fun e fr' H' => match e with
        | .normal => Canon n0 fr' H' keep fun vs' H'' => ∃ m', m' < m ∧ Inv m' vs' H''
        | .exit id => Canon n0 fr' H' keepX fun vs' H'' => Q (.exit id) (mkFr keepX vs') H''
        | .ret => Q .ret fr' H') (mkFr keep vs) H)
  | bm {H1 : List Blk} (hb : AdoptB H H1) (ad : List (Nat × Sh)) (keep : List Nat) (Inv : Nat → List AV → List Blk → Prop) (hk : keep.all (Nat.blt · n) = true)
      (h0 : adopt ad fr H1 fun fr H => Canon n0 fr H keep fun vs H' => ∃ m, Inv m vs H')
      (hr : ∀ m vs H, Inv m vs H → body (fun e fr' H' => match e with
        | .normal => Canon n0 fr' H' keep fun vs' H'' => ∃ m', m' < m ∧ Inv m' vs' H''
        | e => Q e fr' H') (mkFr keep vs) H)
  | bl {H1 : List Blk} (hb : AdoptB H H1) (ad : List (Nat × Sh)) (keep keepX : List Nat) (Inv : Nat → List AV → List Blk → Prop) (hk : keep.all (Nat.blt · n) = true)
      (h0 : adopt ad fr H1 fun fr H => Canon n0 fr H keep fun vs H' => ∃ m, Inv m vs H')
      (hr : ∀ m vs H, Inv m vs H → body (fun e fr' H' => match e with
        | .normal => Canon n0 fr' H' keep fun vs' H'' => ∃ m', m' < m ∧ Inv m' vs' H''
        | .exit id => Canon n0 fr' H' keepX fun vs' H'' => Q (.exit id) (mkFr keepX vs') H''
        | .ret => Q .ret fr' H') (mkFr keep vs) H)

noncomputable def awp {P : Program} (Γ : Tab P) (n n0 : Nat) (dr : List Oper → Fr → List Blk → (Fr → List Blk → Prop) → Prop) (c : Code) (Q : APost) (fr : Fr) (H : List Blk) : Prop :=
  Code.rec (motive := fun _ => APost → Fr → List Blk → Prop)
    (fun Q fr H => Q .normal fr H)
    (fun _ ops draw Q fr H => match draw with
      | false => awpOps Γ n ops.toList ops.toList fr H (Q .normal)
      | true => dr ops.toList fr H (Q .normal))
    (fun _ _ iha ihb Q fr H => iha (fun e fr' H' => match e with | .normal => ihb Q fr' H' | e => Q e fr' H') fr H)
    (fun c _ _ iha ihb Q fr H => match ev fr c with
      | .bool q => NB q (iha Q fr H) (ihb Q fr H)
      | _ => False)
    (fun id _ ih Q fr H => ih (fun e fr' H' => match e with
      | .exit j => match Nat.beq j id with
        | true => Q .normal fr' H'
        | false => Q (.exit j) fr' H'
      | e => Q e fr' H') fr H)
    (fun _ ih Q fr H => NLoop n n0 ih Q fr H)
    (fun _ _ _ _ _ _ _ _ _ => False)
    (fun id Q fr H => Q (.exit id) fr H)
    (fun _ _ _ _ _ => False)
    (fun _ Q fr H => Q .normal fr H)
    (fun _ _ _ _ => False)
    (fun Q fr H => Q .ret fr H)
    (fun _ _ _ _ => False) c Q fr H
theorem awp_cond {P : Program} (Γ : Tab P) (n n0 : Nat) (dr : List Oper → Fr → List Blk → (Fr → List Blk → Prop) → Prop) (c : Operand) (a b : Code) (Q : APost) (fr : Fr) (H : List Blk) : awp Γ n n0 dr (.cond c a b) Q fr H = match ev fr c with
    | .bool q => NB q (awp Γ n n0 dr a Q fr H) (awp Γ n n0 dr b Q fr H)
    | _ => False := rfl

/-- What the result slots hold. -/
noncomputable def ares {P : Program} (Γ : Tab P) (fr : Fr) (H : List Blk) (l : List ResultVar) (k : List AV → Prop) : Prop :=
  List.rec (motive := fun _ => (List AV → Prop) → Prop) (fun k => k [])
    (fun x _ ih k => match x with
      | .tmp t => force (fr.get t) fun a => ih fun as => k (a :: as)
      | .cell p t => match tget Γ.tbl t with
        | some ⟨t, _, _, _⟩ => match fr.get p with
          | .ptr id i o => match H[id]? with
            | some (.row .box sh [x]) => match i with
              | 0 => loadPart sh t x o fun a => ih fun as => k (a :: as)
              | _ => False
            | _ => False
          | _ => False
        | none => False) l k
theorem ares_nil {P : Program} (Γ : Tab P) (fr : Fr) (H : List Blk) (k : List AV → Prop) : ares Γ fr H [] k = k [] := rfl
theorem ares_tmp {P : Program} (Γ : Tab P) (fr : Fr) (H : List Blk) (t : Tmp) (r : List ResultVar) (k : List AV → Prop) : ares Γ fr H (.tmp t :: r) k = force (fr.get t) fun a => ares Γ fr H r fun as => k (a :: as) := rfl
theorem ares_cell {P : Program} (Γ : Tab P) (fr : Fr) (H : List Blk) (p : Tmp) (t : TypeId) (r : List ResultVar) (k : List AV → Prop) : ares Γ fr H (.cell p t :: r) k = match tget Γ.tbl t with
    | some ⟨t, _, _, _⟩ => match fr.get p with
      | .ptr id i o => match H[id]? with
        | some (.row .box sh [x]) => match i with
          | 0 => loadPart sh t x o fun a => ares Γ fr H r fun as => k (a :: as)
          | _ => False
        | _ => False
      | _ => False
    | none => False := rfl

def mkRes : List AV → AV
  | [a] => a
  | as => .tup as

/-- What a body owes: its results, and the owned blocks that are kept. -/
inductive NRet {P : Program} (Γ : Tab P) (n0 : Nat) (rs : List ResultVar) (r : AV) (H' : List Blk) (fr : Fr) (H : List Blk) : Prop
  | mk (S : List Nat) (hS : (nodupB S && allGe n0 S) = true)
      (h : ares Γ fr H rs fun as => cvsA n0 S H as fun vs => cvH n0 S H (List.range n0 ++ S) fun H'' => LeA (mkRes vs) r ∧ H' = H'')
  | ad (ad : List (Nat × Sh)) (S : List Nat) (hS : (nodupB S && allGe n0 S) = true)
      (h : adopt ad fr H fun fr H => ares Γ fr H rs fun as => cvsA n0 S H as fun vs => cvH n0 S H (List.range n0 ++ S) fun H'' => LeA (mkRes vs) r ∧ H' = H'')

def bodyQ {P : Program} (Γ : Tab P) (n0 : Nat) (rs : List ResultVar) (r : AV) (H' : List Blk) : APost := fun e fr H =>
  match e with
  | .exit _ => False
  | _ => NRet Γ n0 rs r H' fr H

def argFr : Nat → List AV → Fr
  | _, [] => []
  | i, a :: r => (i, a) :: argFr (i + 1) r

end Go.Bv
