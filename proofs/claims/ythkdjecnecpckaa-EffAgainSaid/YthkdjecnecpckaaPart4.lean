/- Part of the lift: an abstract walk of the program's code, proved sound, and what it shows of this program. -/
import Derived.Test.YthkdjecnecpckaaPart3
import Derived.Test.YthkdjecnecpckaaPart0
import Derived.Test.YthkdjecnecpckaaChecked
import Derived.Sort.AssemblyPlain
namespace Go.Bv
open Go
section
variable {α β : Type} {f : α → β} {a b : α} {l r : List α} {n : Nat}
theorem z0 : List.map f (a :: l) = f a :: List.map f l := rfl
theorem z1 : List.map f [] = [] := rfl
theorem z2 : (a :: l).length = l.length + 1 := rfl
theorem z3 : ([] : List α).length = 0 := rfl
theorem z4 : a :: l ++ r = a :: (l ++ r) := rfl
theorem z5 : [] ++ r = r := rfl
theorem z6 : (a :: l).set 0 b = b :: l := rfl
theorem z7 : (a :: l).set (n + 1) b = a :: l.set n b := rfl
theorem z8 : (a :: l)[0]? = some a := rfl
theorem z9 : (a :: l)[n + 1]? = l[n]? := rfl
theorem z10 : ([] : List α)[n]? = none := rfl
theorem z11 : (a :: l).take (n + 1) = a :: l.take n := rfl
theorem z12 : l.take 0 = [] := rfl
theorem z13 : (a :: l).drop (n + 1) = l.drop n := rfl
theorem z14 : l.drop 0 = l := rfl
theorem z15 : List.replicate (n + 1) a = a :: List.replicate n a := rfl
theorem z16 : List.replicate 0 a = [] := rfl
theorem tl0 (l : List α) : List.take l.length l = l := List.take_length
end
theorem q0 {ν : Nat} {b : Bool} : AV.sh1 ν (.bool b : AV) = .bool b := rfl
theorem q1 {ν : Nat} {k : IntKind} {n : Int} : AV.sh1 ν (.int k n : AV) = .int k n := rfl
theorem q2 {ν : Nat} {s : List UInt8} : AV.sh1 ν (.str s : AV) = .str s := rfl
theorem q3 {ν : Nat}  : AV.sh1 ν (.nils : AV) = .nils := rfl
theorem q4 {ν : Nat}  : AV.sh1 ν (.nilfn : AV) = .nilfn := rfl
theorem q5 {ν : Nat} {sh : Sh} {l : List AV} : AV.sh1 ν (.list sh l : AV) = .list sh l := rfl
theorem q6 {ν : Nat} {sh : Sh} {x : AV} {o : Nat} : AV.sh1 ν (.at sh x o : AV) = .at sh x o := rfl
theorem q7 {ν : Nat} {id : Nat} {off : Nat} {len : Nat} : AV.sh1 ν (.own id off len : AV) = .own (id + ν) off len := rfl
theorem q8 {ν : Nat} {id : Nat} {i : Nat} {o : Nat} : AV.sh1 ν (.ptr id i o : AV) = .ptr (id + ν) i o := rfl
theorem q9 {ν : Nat} {id : Nat} : AV.sh1 ν (.map id : AV) = .map (id + ν) := rfl
theorem q10 {ν : Nat} {f : FuncId} {caps : List AV} : AV.sh1 ν (.fn f caps : AV) = .fn f caps := rfl
theorem q11 {ν : Nat} {cs : List AV} : AV.sh1 ν (.agg cs : AV) = .agg cs := rfl
theorem q12 {ν : Nat} {vs : List AV} : AV.sh1 ν (.tup vs : AV) = .tup vs := rfl
theorem q13 {ν : Nat}  : AV.sh1 ν (.undef : AV) = .undef := rfl
theorem q14 {ν : Nat} {b : Bool} : AV.shR ν (.bool b : AV) = .bool b := rfl
theorem q15 {ν : Nat} {k : IntKind} {n : Int} : AV.shR ν (.int k n : AV) = .int k n := rfl
theorem q16 {ν : Nat} {s : List UInt8} : AV.shR ν (.str s : AV) = .str s := rfl
theorem q17 {ν : Nat}  : AV.shR ν (.nils : AV) = .nils := rfl
theorem q18 {ν : Nat}  : AV.shR ν (.nilfn : AV) = .nilfn := rfl
theorem q19 {ν : Nat} {sh : Sh} {l : List AV} : AV.shR ν (.list sh l : AV) = .list sh l := rfl
theorem q20 {ν : Nat} {sh : Sh} {x : AV} {o : Nat} : AV.shR ν (.at sh x o : AV) = .at sh x o := rfl
theorem q21 {ν : Nat} {id : Nat} {off : Nat} {len : Nat} : AV.shR ν (.own id off len : AV) = .own (id + ν) off len := rfl
theorem q22 {ν : Nat} {id : Nat} {i : Nat} {o : Nat} : AV.shR ν (.ptr id i o : AV) = .ptr (id + ν) i o := rfl
theorem q23 {ν : Nat} {id : Nat} : AV.shR ν (.map id : AV) = .map (id + ν) := rfl
theorem q24 {ν : Nat} {f : FuncId} {caps : List AV} : AV.shR ν (.fn f caps : AV) = .fn f (caps.map (AV.sh1 ν)) := rfl
theorem q25 {ν : Nat} {cs : List AV} : AV.shR ν (.agg cs : AV) = .agg cs := rfl
theorem q26 {ν : Nat} {vs : List AV} : AV.shR ν (.tup vs : AV) = .tup vs := rfl
theorem q27 {ν : Nat}  : AV.shR ν (.undef : AV) = .undef := rfl
theorem q28 {ν : Nat} {b : Bool} : AV.shA ν (.bool b : AV) = .bool b := rfl
theorem q29 {ν : Nat} {k : IntKind} {n : Int} : AV.shA ν (.int k n : AV) = .int k n := rfl
theorem q30 {ν : Nat} {s : List UInt8} : AV.shA ν (.str s : AV) = .str s := rfl
theorem q31 {ν : Nat}  : AV.shA ν (.nils : AV) = .nils := rfl
theorem q32 {ν : Nat}  : AV.shA ν (.nilfn : AV) = .nilfn := rfl
theorem q33 {ν : Nat} {sh : Sh} {l : List AV} : AV.shA ν (.list sh l : AV) = .list sh l := rfl
theorem q34 {ν : Nat} {sh : Sh} {x : AV} {o : Nat} : AV.shA ν (.at sh x o : AV) = .at sh x o := rfl
theorem q35 {ν : Nat} {id : Nat} {off : Nat} {len : Nat} : AV.shA ν (.own id off len : AV) = .own (id + ν) off len := rfl
theorem q36 {ν : Nat} {id : Nat} {i : Nat} {o : Nat} : AV.shA ν (.ptr id i o : AV) = .ptr (id + ν) i o := rfl
theorem q37 {ν : Nat} {id : Nat} : AV.shA ν (.map id : AV) = .map (id + ν) := rfl
theorem q38 {ν : Nat} {f : FuncId} {caps : List AV} : AV.shA ν (.fn f caps : AV) = .fn f (caps.map (AV.sh1 ν)) := rfl
theorem q39 {ν : Nat} {cs : List AV} : AV.shA ν (.agg cs : AV) = .agg (cs.map (AV.shR ν)) := rfl
theorem q40 {ν : Nat} {vs : List AV} : AV.shA ν (.tup vs : AV) = .tup vs := rfl
theorem q41 {ν : Nat}  : AV.shA ν (.undef : AV) = .undef := rfl
theorem q42 {ν : Nat} {b : Bool} : AV.shT ν (.bool b : AV) = .bool b := rfl
theorem q43 {ν : Nat} {k : IntKind} {n : Int} : AV.shT ν (.int k n : AV) = .int k n := rfl
theorem q44 {ν : Nat} {s : List UInt8} : AV.shT ν (.str s : AV) = .str s := rfl
theorem q45 {ν : Nat}  : AV.shT ν (.nils : AV) = .nils := rfl
theorem q46 {ν : Nat}  : AV.shT ν (.nilfn : AV) = .nilfn := rfl
theorem q47 {ν : Nat} {sh : Sh} {l : List AV} : AV.shT ν (.list sh l : AV) = .list sh l := rfl
theorem q48 {ν : Nat} {sh : Sh} {x : AV} {o : Nat} : AV.shT ν (.at sh x o : AV) = .at sh x o := rfl
theorem q49 {ν : Nat} {id : Nat} {off : Nat} {len : Nat} : AV.shT ν (.own id off len : AV) = .own (id + ν) off len := rfl
theorem q50 {ν : Nat} {id : Nat} {i : Nat} {o : Nat} : AV.shT ν (.ptr id i o : AV) = .ptr (id + ν) i o := rfl
theorem q51 {ν : Nat} {id : Nat} : AV.shT ν (.map id : AV) = .map (id + ν) := rfl
theorem q52 {ν : Nat} {f : FuncId} {caps : List AV} : AV.shT ν (.fn f caps : AV) = .fn f (caps.map (AV.sh1 ν)) := rfl
theorem q53 {ν : Nat} {cs : List AV} : AV.shT ν (.agg cs : AV) = .agg (cs.map (AV.shR ν)) := rfl
theorem q54 {ν : Nat} {vs : List AV} : AV.shT ν (.tup vs : AV) = .tup (vs.map (AV.shA ν)) := rfl
theorem q55 {ν : Nat}  : AV.shT ν (.undef : AV) = .undef := rfl
theorem q56 {ν : Nat → Nat} {b : Bool} : AV.rn1 ν (.bool b : AV) = .bool b := rfl
theorem q57 {ν : Nat → Nat} {k : IntKind} {n : Int} : AV.rn1 ν (.int k n : AV) = .int k n := rfl
theorem q58 {ν : Nat → Nat} {s : List UInt8} : AV.rn1 ν (.str s : AV) = .str s := rfl
theorem q59 {ν : Nat → Nat}  : AV.rn1 ν (.nils : AV) = .nils := rfl
theorem q60 {ν : Nat → Nat}  : AV.rn1 ν (.nilfn : AV) = .nilfn := rfl
theorem q61 {ν : Nat → Nat} {sh : Sh} {l : List AV} : AV.rn1 ν (.list sh l : AV) = .list sh l := rfl
theorem q62 {ν : Nat → Nat} {sh : Sh} {x : AV} {o : Nat} : AV.rn1 ν (.at sh x o : AV) = .at sh x o := rfl
theorem q63 {ν : Nat → Nat} {id : Nat} {off : Nat} {len : Nat} : AV.rn1 ν (.own id off len : AV) = .own (ν id) off len := rfl
theorem q64 {ν : Nat → Nat} {id : Nat} {i : Nat} {o : Nat} : AV.rn1 ν (.ptr id i o : AV) = .ptr (ν id) i o := rfl
theorem q65 {ν : Nat → Nat} {id : Nat} : AV.rn1 ν (.map id : AV) = .map (ν id) := rfl
theorem q66 {ν : Nat → Nat} {f : FuncId} {caps : List AV} : AV.rn1 ν (.fn f caps : AV) = .fn f caps := rfl
theorem q67 {ν : Nat → Nat} {cs : List AV} : AV.rn1 ν (.agg cs : AV) = .agg cs := rfl
theorem q68 {ν : Nat → Nat} {vs : List AV} : AV.rn1 ν (.tup vs : AV) = .tup vs := rfl
theorem q69 {ν : Nat → Nat}  : AV.rn1 ν (.undef : AV) = .undef := rfl
theorem q70 {ν : Nat → Nat} {b : Bool} : AV.rnR ν (.bool b : AV) = .bool b := rfl
theorem q71 {ν : Nat → Nat} {k : IntKind} {n : Int} : AV.rnR ν (.int k n : AV) = .int k n := rfl
theorem q72 {ν : Nat → Nat} {s : List UInt8} : AV.rnR ν (.str s : AV) = .str s := rfl
theorem q73 {ν : Nat → Nat}  : AV.rnR ν (.nils : AV) = .nils := rfl
theorem q74 {ν : Nat → Nat}  : AV.rnR ν (.nilfn : AV) = .nilfn := rfl
theorem q75 {ν : Nat → Nat} {sh : Sh} {l : List AV} : AV.rnR ν (.list sh l : AV) = .list sh l := rfl
theorem q76 {ν : Nat → Nat} {sh : Sh} {x : AV} {o : Nat} : AV.rnR ν (.at sh x o : AV) = .at sh x o := rfl
theorem q77 {ν : Nat → Nat} {id : Nat} {off : Nat} {len : Nat} : AV.rnR ν (.own id off len : AV) = .own (ν id) off len := rfl
theorem q78 {ν : Nat → Nat} {id : Nat} {i : Nat} {o : Nat} : AV.rnR ν (.ptr id i o : AV) = .ptr (ν id) i o := rfl
theorem q79 {ν : Nat → Nat} {id : Nat} : AV.rnR ν (.map id : AV) = .map (ν id) := rfl
theorem q80 {ν : Nat → Nat} {f : FuncId} {caps : List AV} : AV.rnR ν (.fn f caps : AV) = .fn f (caps.map (AV.rn1 ν)) := rfl
theorem q81 {ν : Nat → Nat} {cs : List AV} : AV.rnR ν (.agg cs : AV) = .agg cs := rfl
theorem q82 {ν : Nat → Nat} {vs : List AV} : AV.rnR ν (.tup vs : AV) = .tup vs := rfl
theorem q83 {ν : Nat → Nat}  : AV.rnR ν (.undef : AV) = .undef := rfl
theorem q84 {ν : Nat → Nat} {b : Bool} : AV.rnA ν (.bool b : AV) = .bool b := rfl
theorem q85 {ν : Nat → Nat} {k : IntKind} {n : Int} : AV.rnA ν (.int k n : AV) = .int k n := rfl
theorem q86 {ν : Nat → Nat} {s : List UInt8} : AV.rnA ν (.str s : AV) = .str s := rfl
theorem q87 {ν : Nat → Nat}  : AV.rnA ν (.nils : AV) = .nils := rfl
theorem q88 {ν : Nat → Nat}  : AV.rnA ν (.nilfn : AV) = .nilfn := rfl
theorem q89 {ν : Nat → Nat} {sh : Sh} {l : List AV} : AV.rnA ν (.list sh l : AV) = .list sh l := rfl
theorem q90 {ν : Nat → Nat} {sh : Sh} {x : AV} {o : Nat} : AV.rnA ν (.at sh x o : AV) = .at sh x o := rfl
theorem q91 {ν : Nat → Nat} {id : Nat} {off : Nat} {len : Nat} : AV.rnA ν (.own id off len : AV) = .own (ν id) off len := rfl
theorem q92 {ν : Nat → Nat} {id : Nat} {i : Nat} {o : Nat} : AV.rnA ν (.ptr id i o : AV) = .ptr (ν id) i o := rfl
theorem q93 {ν : Nat → Nat} {id : Nat} : AV.rnA ν (.map id : AV) = .map (ν id) := rfl
theorem q94 {ν : Nat → Nat} {f : FuncId} {caps : List AV} : AV.rnA ν (.fn f caps : AV) = .fn f (caps.map (AV.rn1 ν)) := rfl
theorem q95 {ν : Nat → Nat} {cs : List AV} : AV.rnA ν (.agg cs : AV) = .agg (cs.map (AV.rnR ν)) := rfl
theorem q96 {ν : Nat → Nat} {vs : List AV} : AV.rnA ν (.tup vs : AV) = .tup vs := rfl
theorem q97 {ν : Nat → Nat}  : AV.rnA ν (.undef : AV) = .undef := rfl
theorem q98 {ν : Nat → Nat} {b : Bool} : AV.rnT ν (.bool b : AV) = .bool b := rfl
theorem q99 {ν : Nat → Nat} {k : IntKind} {n : Int} : AV.rnT ν (.int k n : AV) = .int k n := rfl
theorem q100 {ν : Nat → Nat} {s : List UInt8} : AV.rnT ν (.str s : AV) = .str s := rfl
theorem q101 {ν : Nat → Nat}  : AV.rnT ν (.nils : AV) = .nils := rfl
theorem q102 {ν : Nat → Nat}  : AV.rnT ν (.nilfn : AV) = .nilfn := rfl
theorem q103 {ν : Nat → Nat} {sh : Sh} {l : List AV} : AV.rnT ν (.list sh l : AV) = .list sh l := rfl
theorem q104 {ν : Nat → Nat} {sh : Sh} {x : AV} {o : Nat} : AV.rnT ν (.at sh x o : AV) = .at sh x o := rfl
theorem q105 {ν : Nat → Nat} {id : Nat} {off : Nat} {len : Nat} : AV.rnT ν (.own id off len : AV) = .own (ν id) off len := rfl
theorem q106 {ν : Nat → Nat} {id : Nat} {i : Nat} {o : Nat} : AV.rnT ν (.ptr id i o : AV) = .ptr (ν id) i o := rfl
theorem q107 {ν : Nat → Nat} {id : Nat} : AV.rnT ν (.map id : AV) = .map (ν id) := rfl
theorem q108 {ν : Nat → Nat} {f : FuncId} {caps : List AV} : AV.rnT ν (.fn f caps : AV) = .fn f (caps.map (AV.rn1 ν)) := rfl
theorem q109 {ν : Nat → Nat} {cs : List AV} : AV.rnT ν (.agg cs : AV) = .agg (cs.map (AV.rnR ν)) := rfl
theorem q110 {ν : Nat → Nat} {vs : List AV} : AV.rnT ν (.tup vs : AV) = .tup (vs.map (AV.rnA ν)) := rfl
theorem q111 {ν : Nat → Nat}  : AV.rnT ν (.undef : AV) = .undef := rfl
theorem q112 {ν : Nat} : Blk.shift ν (.dead : Blk) = .dead := rfl
theorem q113 {ν : Nat} {sh : Sh} {es : List AV} : Blk.shift ν (.row .row sh es : Blk) = .row .row sh es := rfl
theorem q114 {ν : Nat} {sh : Sh} {es : List AV} : Blk.shift ν (.row .vrow sh es : Blk) = .row .vrow sh es := rfl
theorem q115 {ν : Nat} {sh : Sh} {es : List AV} : Blk.shift ν (.row .box sh es : Blk) = .row .box sh (es.map (AV.shA ν)) := rfl
theorem q116 {ν : Nat} {sh : Sh} {es : List AV} : Blk.shift ν (.ro sh es : Blk) = .ro sh es := rfl
theorem q117 {ν : Nat} {es : List (AV × AV)} : Blk.shift ν (.map es : Blk) = .map es := rfl
theorem q118 {ν : Nat → Nat} : Blk.rn ν (.dead : Blk) = .dead := rfl
theorem q119 {ν : Nat → Nat} {sh : Sh} {es : List AV} : Blk.rn ν (.row .row sh es : Blk) = .row .row sh es := rfl
theorem q120 {ν : Nat → Nat} {sh : Sh} {es : List AV} : Blk.rn ν (.row .vrow sh es : Blk) = .row .vrow sh es := rfl
theorem q121 {ν : Nat → Nat} {sh : Sh} {es : List AV} : Blk.rn ν (.row .box sh es : Blk) = .row .box sh (es.map (AV.rnA ν)) := rfl
theorem q122 {ν : Nat → Nat} {sh : Sh} {es : List AV} : Blk.rn ν (.ro sh es : Blk) = .ro sh es := rfl
theorem q123 {ν : Nat → Nat} {es : List (AV × AV)} : Blk.rn ν (.map es : Blk) = .map es := rfl
theorem q124 {H : List Blk} {b : Bool} : thaw H (.bool b : AV) = .bool b := rfl
theorem q125 {H : List Blk} {b : Bool} : thawA H (.bool b : AV) = .bool b := rfl
theorem q126 {H : List Blk} {k : IntKind} {n : Int} : thaw H (.int k n : AV) = .int k n := rfl
theorem q127 {H : List Blk} {k : IntKind} {n : Int} : thawA H (.int k n : AV) = .int k n := rfl
theorem q128 {H : List Blk} {s : List UInt8} : thaw H (.str s : AV) = .str s := rfl
theorem q129 {H : List Blk} {s : List UInt8} : thawA H (.str s : AV) = .str s := rfl
theorem q130 {H : List Blk}  : thaw H (.nils : AV) = .nils := rfl
theorem q131 {H : List Blk}  : thawA H (.nils : AV) = .nils := rfl
theorem q132 {H : List Blk}  : thaw H (.nilfn : AV) = .nilfn := rfl
theorem q133 {H : List Blk}  : thawA H (.nilfn : AV) = .nilfn := rfl
theorem q134 {H : List Blk} {sh : Sh} {l : List AV} : thaw H (.list sh l : AV) = .list sh l := rfl
theorem q135 {H : List Blk} {sh : Sh} {l : List AV} : thawA H (.list sh l : AV) = .list sh l := rfl
theorem q136 {H : List Blk} {sh : Sh} {x : AV} {o : Nat} : thaw H (.at sh x o : AV) = .at sh x o := rfl
theorem q137 {H : List Blk} {sh : Sh} {x : AV} {o : Nat} : thawA H (.at sh x o : AV) = .at sh x o := rfl
theorem q138 {H : List Blk} {id : Nat} {i : Nat} {o : Nat} : thaw H (.ptr id i o : AV) = .ptr id i o := rfl
theorem q139 {H : List Blk} {id : Nat} {i : Nat} {o : Nat} : thawA H (.ptr id i o : AV) = .ptr id i o := rfl
theorem q140 {H : List Blk} {id : Nat} : thaw H (.map id : AV) = .map id := rfl
theorem q141 {H : List Blk} {id : Nat} : thawA H (.map id : AV) = .map id := rfl
theorem q142 {H : List Blk} {f : FuncId} {caps : List AV} : thaw H (.fn f caps : AV) = .fn f caps := rfl
theorem q143 {H : List Blk} {f : FuncId} {caps : List AV} : thawA H (.fn f caps : AV) = .fn f caps := rfl
theorem q144 {H : List Blk} {cs : List AV} : thaw H (.agg cs : AV) = .agg cs := rfl
theorem q145 {H : List Blk} {cs : List AV} : thawA H (.agg cs : AV) = .agg (cs.map (thaw H)) := rfl
theorem q146 {H : List Blk} {vs : List AV} : thaw H (.tup vs : AV) = .tup vs := rfl
theorem q147 {H : List Blk} {vs : List AV} : thawA H (.tup vs : AV) = .tup vs := rfl
theorem q148 {H : List Blk}  : thaw H (.undef : AV) = .undef := rfl
theorem q149 {H : List Blk}  : thawA H (.undef : AV) = .undef := rfl
theorem q150 {H : List Blk} {id off len : Nat} : thawA H (.own id off len) = thaw H (.own id off len) := rfl
theorem y0 {cs : List AV} {o : Nat} : setCells cs o [] = cs := rfl
theorem y1 {cs r : List AV} {o : Nat} {x : AV} : setCells cs o (x :: r) = setCells (cs.set o x) (o + 1) r := rfl
theorem y2 {cs : List AV} : AV.cells (.agg cs) = cs := rfl
theorem y3 {b : Bool} : AV.cells (.bool b) = [.bool b] := rfl
theorem y4 {k : IntKind} {n : Int} : AV.cells (.int k n) = [.int k n] := rfl
theorem y5 {s : List UInt8} : AV.cells (.str s) = [.str s] := rfl
theorem y6  : AV.cells (.nils) = [.nils] := rfl
theorem y7  : AV.cells (.nilfn) = [.nilfn] := rfl
theorem y8 {sh : Sh} {l : List AV} : AV.cells (.list sh l) = [.list sh l] := rfl
theorem y9 {sh : Sh} {x : AV} {o : Nat} : AV.cells (.at sh x o) = [.at sh x o] := rfl
theorem y10 {id : Nat} {off : Nat} {len : Nat} : AV.cells (.own id off len) = [.own id off len] := rfl
theorem y11 {id : Nat} {i : Nat} {o : Nat} : AV.cells (.ptr id i o) = [.ptr id i o] := rfl
theorem y12 {id : Nat} : AV.cells (.map id) = [.map id] := rfl
theorem y13 {f : FuncId} {caps : List AV} : AV.cells (.fn f caps) = [.fn f caps] := rfl
theorem y14 {vs : List AV} : AV.cells (.tup vs) = [.tup vs] := rfl
theorem y15  : AV.cells (.undef) = [.undef] := rfl
end Go.Bv
namespace Go.Bv
open Go
section
variable {P : Program} {f : FuncId} {args args' : List AV} {H H' H'' : List Blk} {r r' : AV} {next : AV → List Blk → Prop}
theorem NCall.atA (h : ACalls P f args H r H') (hn : next r' H'')
    (er : r = r' := by (try dsimp only [z0, z1, z2, z3, z4, z5, z6, z7, z8, z9, z10, z11, z12, z13, z14, z15, z16, y0, y1, y2, y3, y4, y5, y6, y7, y8, y9, y10, y11, y12, y13, y14, y15, Nat.reduceAdd, Nat.reduceSub, q0, q1, q2, q3, q4, q5, q6, q7, q8, q9, q10, q11, q12, q13, q14, q15, q16, q17, q18, q19, q20, q21, q22, q23, q24, q25, q26, q27, q28, q29, q30, q31, q32, q33, q34, q35, q36, q37, q38, q39, q40, q41, q42, q43, q44, q45, q46, q47, q48, q49, q50, q51, q52, q53, q54, q55, q56, q57, q58, q59, q60, q61, q62, q63, q64, q65, q66, q67, q68, q69, q70, q71, q72, q73, q74, q75, q76, q77, q78, q79, q80, q81, q82, q83, q84, q85, q86, q87, q88, q89, q90, q91, q92, q93, q94, q95, q96, q97, q98, q99, q100, q101, q102, q103, q104, q105, q106, q107, q108, q109, q110, q111, q112, q113, q114, q115, q116, q117, q118, q119, q120, q121, q122, q123, q124, q125, q126, q127, q128, q129, q130, q131, q132, q133, q134, q135, q136, q137, q138, q139, q140, q141, q142, q143, q144, q145, q146, q147, q148, q149, q150, rho, setAll, roAll, thaw]) <;> exact rfl)
    (eH : H' = H'' := by (try dsimp only [z0, z1, z2, z3, z4, z5, z6, z7, z8, z9, z10, z11, z12, z13, z14, z15, z16, y0, y1, y2, y3, y4, y5, y6, y7, y8, y9, y10, y11, y12, y13, y14, y15, Nat.reduceAdd, Nat.reduceSub, q0, q1, q2, q3, q4, q5, q6, q7, q8, q9, q10, q11, q12, q13, q14, q15, q16, q17, q18, q19, q20, q21, q22, q23, q24, q25, q26, q27, q28, q29, q30, q31, q32, q33, q34, q35, q36, q37, q38, q39, q40, q41, q42, q43, q44, q45, q46, q47, q48, q49, q50, q51, q52, q53, q54, q55, q56, q57, q58, q59, q60, q61, q62, q63, q64, q65, q66, q67, q68, q69, q70, q71, q72, q73, q74, q75, q76, q77, q78, q79, q80, q81, q82, q83, q84, q85, q86, q87, q88, q89, q90, q91, q92, q93, q94, q95, q96, q97, q98, q99, q100, q101, q102, q103, q104, q105, q106, q107, q108, q109, q110, q111, q112, q113, q114, q115, q116, q117, q118, q119, q120, q121, q122, q123, q124, q125, q126, q127, q128, q129, q130, q131, q132, q133, q134, q135, q136, q137, q138, q139, q140, q141, q142, q143, q144, q145, q146, q147, q148, q149, q150, rho, setAll, roAll, thaw]) <;> exact rfl) : NCall P f args H next := NCall.atN h er eH hn
theorem NCall.subA {args0 : List AV} {H0 H0' : List Blk} (S : List Nat) (h : ACalls P f args0 H0 r H0') (hn : next r' H'')
    (hS : nodupB S = true := by exact rfl)
    (hH : S.map (fun j => H[j]?) = H0.map (fun b => some (b.rn (rho S H.length))) := by first | exact rfl | (simp [rho, Blk.rn, AV.rnA, AV.rnR, AV.rn1]; done))
    (ha : args = args0.map (AV.rnA (rho S H.length)) := by first | exact rfl | (simp [rho, AV.rnA, AV.rnR, AV.rn1]; done))
    (er : r.rnT (rho S H.length) = r' := by (try dsimp only [z0, z1, z2, z3, z4, z5, z6, z7, z8, z9, z10, z11, z12, z13, z14, z15, z16, y0, y1, y2, y3, y4, y5, y6, y7, y8, y9, y10, y11, y12, y13, y14, y15, Nat.reduceAdd, Nat.reduceSub, q0, q1, q2, q3, q4, q5, q6, q7, q8, q9, q10, q11, q12, q13, q14, q15, q16, q17, q18, q19, q20, q21, q22, q23, q24, q25, q26, q27, q28, q29, q30, q31, q32, q33, q34, q35, q36, q37, q38, q39, q40, q41, q42, q43, q44, q45, q46, q47, q48, q49, q50, q51, q52, q53, q54, q55, q56, q57, q58, q59, q60, q61, q62, q63, q64, q65, q66, q67, q68, q69, q70, q71, q72, q73, q74, q75, q76, q77, q78, q79, q80, q81, q82, q83, q84, q85, q86, q87, q88, q89, q90, q91, q92, q93, q94, q95, q96, q97, q98, q99, q100, q101, q102, q103, q104, q105, q106, q107, q108, q109, q110, q111, q112, q113, q114, q115, q116, q117, q118, q119, q120, q121, q122, q123, q124, q125, q126, q127, q128, q129, q130, q131, q132, q133, q134, q135, q136, q137, q138, q139, q140, q141, q142, q143, q144, q145, q146, q147, q148, q149, q150, rho, setAll, roAll, thaw]) <;> exact rfl)
    (eH : setAll H S ((H0'.take S.length).map (Blk.rn (rho S H.length))) ++ (H0'.drop S.length).map (Blk.rn (rho S H.length)) = H'' := by (try dsimp only [z0, z1, z2, z3, z4, z5, z6, z7, z8, z9, z10, z11, z12, z13, z14, z15, z16, y0, y1, y2, y3, y4, y5, y6, y7, y8, y9, y10, y11, y12, y13, y14, y15, Nat.reduceAdd, Nat.reduceSub, q0, q1, q2, q3, q4, q5, q6, q7, q8, q9, q10, q11, q12, q13, q14, q15, q16, q17, q18, q19, q20, q21, q22, q23, q24, q25, q26, q27, q28, q29, q30, q31, q32, q33, q34, q35, q36, q37, q38, q39, q40, q41, q42, q43, q44, q45, q46, q47, q48, q49, q50, q51, q52, q53, q54, q55, q56, q57, q58, q59, q60, q61, q62, q63, q64, q65, q66, q67, q68, q69, q70, q71, q72, q73, q74, q75, q76, q77, q78, q79, q80, q81, q82, q83, q84, q85, q86, q87, q88, q89, q90, q91, q92, q93, q94, q95, q96, q97, q98, q99, q100, q101, q102, q103, q104, q105, q106, q107, q108, q109, q110, q111, q112, q113, q114, q115, q116, q117, q118, q119, q120, q121, q122, q123, q124, q125, q126, q127, q128, q129, q130, q131, q132, q133, q134, q135, q136, q137, q138, q139, q140, q141, q142, q143, q144, q145, q146, q147, q148, q149, q150, rho, setAll, roAll, thaw]) <;> exact rfl) :
    NCall P f args H next := NCall.sub S h hS hH ha er eH hn
theorem NCall.roA (ids : List Nat) (h : NCall P f args' H' next)
    (eH : roAll H ids = H' := by (try dsimp only [z0, z1, z2, z3, z4, z5, z6, z7, z8, z9, z10, z11, z12, z13, z14, z15, z16, y0, y1, y2, y3, y4, y5, y6, y7, y8, y9, y10, y11, y12, y13, y14, y15, Nat.reduceAdd, Nat.reduceSub, q0, q1, q2, q3, q4, q5, q6, q7, q8, q9, q10, q11, q12, q13, q14, q15, q16, q17, q18, q19, q20, q21, q22, q23, q24, q25, q26, q27, q28, q29, q30, q31, q32, q33, q34, q35, q36, q37, q38, q39, q40, q41, q42, q43, q44, q45, q46, q47, q48, q49, q50, q51, q52, q53, q54, q55, q56, q57, q58, q59, q60, q61, q62, q63, q64, q65, q66, q67, q68, q69, q70, q71, q72, q73, q74, q75, q76, q77, q78, q79, q80, q81, q82, q83, q84, q85, q86, q87, q88, q89, q90, q91, q92, q93, q94, q95, q96, q97, q98, q99, q100, q101, q102, q103, q104, q105, q106, q107, q108, q109, q110, q111, q112, q113, q114, q115, q116, q117, q118, q119, q120, q121, q122, q123, q124, q125, q126, q127, q128, q129, q130, q131, q132, q133, q134, q135, q136, q137, q138, q139, q140, q141, q142, q143, q144, q145, q146, q147, q148, q149, q150, rho, setAll, roAll, thaw]) <;> exact rfl)
    (ea : args.map (thawA H') = args' := by (try dsimp only [z0, z1, z2, z3, z4, z5, z6, z7, z8, z9, z10, z11, z12, z13, z14, z15, z16, y0, y1, y2, y3, y4, y5, y6, y7, y8, y9, y10, y11, y12, y13, y14, y15, Nat.reduceAdd, Nat.reduceSub, q0, q1, q2, q3, q4, q5, q6, q7, q8, q9, q10, q11, q12, q13, q14, q15, q16, q17, q18, q19, q20, q21, q22, q23, q24, q25, q26, q27, q28, q29, q30, q31, q32, q33, q34, q35, q36, q37, q38, q39, q40, q41, q42, q43, q44, q45, q46, q47, q48, q49, q50, q51, q52, q53, q54, q55, q56, q57, q58, q59, q60, q61, q62, q63, q64, q65, q66, q67, q68, q69, q70, q71, q72, q73, q74, q75, q76, q77, q78, q79, q80, q81, q82, q83, q84, q85, q86, q87, q88, q89, q90, q91, q92, q93, q94, q95, q96, q97, q98, q99, q100, q101, q102, q103, q104, q105, q106, q107, q108, q109, q110, q111, q112, q113, q114, q115, q116, q117, q118, q119, q120, q121, q122, q123, q124, q125, q126, q127, q128, q129, q130, q131, q132, q133, q134, q135, q136, q137, q138, q139, q140, q141, q142, q143, q144, q145, q146, q147, q148, q149, q150, rho, setAll, roAll, thaw]) <;> exact rfl) : NCall P f args H next := NCall.ro ids eH ea h
end
section
variable {H H'' : List Blk} {id off len : Nat} {kk : RK} {sh : Sh} {es xs es' : List AV} {bytes n l : Nat} {next : AV → List Blk → Prop}
theorem NApp.endA (h1 : len = es.length) (hb : (es.length + xs.length) * bytes ≤ 2 ^ 46) (hn : next (.own n 0 l) H'') (h0 : off = 0 := by exact rfl)
    (en : H.length = n := by (try dsimp only [z0, z1, z2, z3, z4, z5, z6, z7, z8, z9, z10, z11, z12, z13, z14, z15, z16, y0, y1, y2, y3, y4, y5, y6, y7, y8, y9, y10, y11, y12, y13, y14, y15, Nat.reduceAdd, Nat.reduceSub, q0, q1, q2, q3, q4, q5, q6, q7, q8, q9, q10, q11, q12, q13, q14, q15, q16, q17, q18, q19, q20, q21, q22, q23, q24, q25, q26, q27, q28, q29, q30, q31, q32, q33, q34, q35, q36, q37, q38, q39, q40, q41, q42, q43, q44, q45, q46, q47, q48, q49, q50, q51, q52, q53, q54, q55, q56, q57, q58, q59, q60, q61, q62, q63, q64, q65, q66, q67, q68, q69, q70, q71, q72, q73, q74, q75, q76, q77, q78, q79, q80, q81, q82, q83, q84, q85, q86, q87, q88, q89, q90, q91, q92, q93, q94, q95, q96, q97, q98, q99, q100, q101, q102, q103, q104, q105, q106, q107, q108, q109, q110, q111, q112, q113, q114, q115, q116, q117, q118, q119, q120, q121, q122, q123, q124, q125, q126, q127, q128, q129, q130, q131, q132, q133, q134, q135, q136, q137, q138, q139, q140, q141, q142, q143, q144, q145, q146, q147, q148, q149, q150, rho, setAll, roAll, thaw]) <;> exact rfl)
    (ee : es ++ xs = es' := by (try dsimp only [z0, z1, z2, z3, z4, z5, z6, z7, z8, z9, z10, z11, z12, z13, z14, z15, z16, y0, y1, y2, y3, y4, y5, y6, y7, y8, y9, y10, y11, y12, y13, y14, y15, Nat.reduceAdd, Nat.reduceSub, q0, q1, q2, q3, q4, q5, q6, q7, q8, q9, q10, q11, q12, q13, q14, q15, q16, q17, q18, q19, q20, q21, q22, q23, q24, q25, q26, q27, q28, q29, q30, q31, q32, q33, q34, q35, q36, q37, q38, q39, q40, q41, q42, q43, q44, q45, q46, q47, q48, q49, q50, q51, q52, q53, q54, q55, q56, q57, q58, q59, q60, q61, q62, q63, q64, q65, q66, q67, q68, q69, q70, q71, q72, q73, q74, q75, q76, q77, q78, q79, q80, q81, q82, q83, q84, q85, q86, q87, q88, q89, q90, q91, q92, q93, q94, q95, q96, q97, q98, q99, q100, q101, q102, q103, q104, q105, q106, q107, q108, q109, q110, q111, q112, q113, q114, q115, q116, q117, q118, q119, q120, q121, q122, q123, q124, q125, q126, q127, q128, q129, q130, q131, q132, q133, q134, q135, q136, q137, q138, q139, q140, q141, q142, q143, q144, q145, q146, q147, q148, q149, q150, rho, setAll, roAll, thaw]) <;> exact rfl)
    (el : (es ++ xs).length = l := by (try dsimp only [z0, z1, z2, z3, z4, z5, z6, z7, z8, z9, z10, z11, z12, z13, z14, z15, z16, y0, y1, y2, y3, y4, y5, y6, y7, y8, y9, y10, y11, y12, y13, y14, y15, Nat.reduceAdd, Nat.reduceSub, q0, q1, q2, q3, q4, q5, q6, q7, q8, q9, q10, q11, q12, q13, q14, q15, q16, q17, q18, q19, q20, q21, q22, q23, q24, q25, q26, q27, q28, q29, q30, q31, q32, q33, q34, q35, q36, q37, q38, q39, q40, q41, q42, q43, q44, q45, q46, q47, q48, q49, q50, q51, q52, q53, q54, q55, q56, q57, q58, q59, q60, q61, q62, q63, q64, q65, q66, q67, q68, q69, q70, q71, q72, q73, q74, q75, q76, q77, q78, q79, q80, q81, q82, q83, q84, q85, q86, q87, q88, q89, q90, q91, q92, q93, q94, q95, q96, q97, q98, q99, q100, q101, q102, q103, q104, q105, q106, q107, q108, q109, q110, q111, q112, q113, q114, q115, q116, q117, q118, q119, q120, q121, q122, q123, q124, q125, q126, q127, q128, q129, q130, q131, q132, q133, q134, q135, q136, q137, q138, q139, q140, q141, q142, q143, q144, q145, q146, q147, q148, q149, q150, rho, setAll, roAll, thaw]) <;> exact rfl)
    (eH : H.set id .dead ++ [.row kk sh es'] = H'' := by (try dsimp only [z0, z1, z2, z3, z4, z5, z6, z7, z8, z9, z10, z11, z12, z13, z14, z15, z16, y0, y1, y2, y3, y4, y5, y6, y7, y8, y9, y10, y11, y12, y13, y14, y15, Nat.reduceAdd, Nat.reduceSub, q0, q1, q2, q3, q4, q5, q6, q7, q8, q9, q10, q11, q12, q13, q14, q15, q16, q17, q18, q19, q20, q21, q22, q23, q24, q25, q26, q27, q28, q29, q30, q31, q32, q33, q34, q35, q36, q37, q38, q39, q40, q41, q42, q43, q44, q45, q46, q47, q48, q49, q50, q51, q52, q53, q54, q55, q56, q57, q58, q59, q60, q61, q62, q63, q64, q65, q66, q67, q68, q69, q70, q71, q72, q73, q74, q75, q76, q77, q78, q79, q80, q81, q82, q83, q84, q85, q86, q87, q88, q89, q90, q91, q92, q93, q94, q95, q96, q97, q98, q99, q100, q101, q102, q103, q104, q105, q106, q107, q108, q109, q110, q111, q112, q113, q114, q115, q116, q117, q118, q119, q120, q121, q122, q123, q124, q125, q126, q127, q128, q129, q130, q131, q132, q133, q134, q135, q136, q137, q138, q139, q140, q141, q142, q143, q144, q145, q146, q147, q148, q149, q150, rho, setAll, roAll, thaw]) <;> exact rfl) : NApp H id off len kk sh es xs bytes next := NApp.enddN h0 h1 hb en ee el eH hn
theorem NApp.inA (h1 : off + len + xs.length ≤ es.length) (hn : next (.own id off l) H'')
    (el : len + xs.length = l := by (try dsimp only [z0, z1, z2, z3, z4, z5, z6, z7, z8, z9, z10, z11, z12, z13, z14, z15, z16, y0, y1, y2, y3, y4, y5, y6, y7, y8, y9, y10, y11, y12, y13, y14, y15, Nat.reduceAdd, Nat.reduceSub, q0, q1, q2, q3, q4, q5, q6, q7, q8, q9, q10, q11, q12, q13, q14, q15, q16, q17, q18, q19, q20, q21, q22, q23, q24, q25, q26, q27, q28, q29, q30, q31, q32, q33, q34, q35, q36, q37, q38, q39, q40, q41, q42, q43, q44, q45, q46, q47, q48, q49, q50, q51, q52, q53, q54, q55, q56, q57, q58, q59, q60, q61, q62, q63, q64, q65, q66, q67, q68, q69, q70, q71, q72, q73, q74, q75, q76, q77, q78, q79, q80, q81, q82, q83, q84, q85, q86, q87, q88, q89, q90, q91, q92, q93, q94, q95, q96, q97, q98, q99, q100, q101, q102, q103, q104, q105, q106, q107, q108, q109, q110, q111, q112, q113, q114, q115, q116, q117, q118, q119, q120, q121, q122, q123, q124, q125, q126, q127, q128, q129, q130, q131, q132, q133, q134, q135, q136, q137, q138, q139, q140, q141, q142, q143, q144, q145, q146, q147, q148, q149, q150, rho, setAll, roAll, thaw]) <;> exact rfl)
    (ee : es.take (off + len) ++ (xs ++ es.drop (off + len + xs.length)) = es' := by (try dsimp only [z0, z1, z2, z3, z4, z5, z6, z7, z8, z9, z10, z11, z12, z13, z14, z15, z16, y0, y1, y2, y3, y4, y5, y6, y7, y8, y9, y10, y11, y12, y13, y14, y15, Nat.reduceAdd, Nat.reduceSub, q0, q1, q2, q3, q4, q5, q6, q7, q8, q9, q10, q11, q12, q13, q14, q15, q16, q17, q18, q19, q20, q21, q22, q23, q24, q25, q26, q27, q28, q29, q30, q31, q32, q33, q34, q35, q36, q37, q38, q39, q40, q41, q42, q43, q44, q45, q46, q47, q48, q49, q50, q51, q52, q53, q54, q55, q56, q57, q58, q59, q60, q61, q62, q63, q64, q65, q66, q67, q68, q69, q70, q71, q72, q73, q74, q75, q76, q77, q78, q79, q80, q81, q82, q83, q84, q85, q86, q87, q88, q89, q90, q91, q92, q93, q94, q95, q96, q97, q98, q99, q100, q101, q102, q103, q104, q105, q106, q107, q108, q109, q110, q111, q112, q113, q114, q115, q116, q117, q118, q119, q120, q121, q122, q123, q124, q125, q126, q127, q128, q129, q130, q131, q132, q133, q134, q135, q136, q137, q138, q139, q140, q141, q142, q143, q144, q145, q146, q147, q148, q149, q150, rho, setAll, roAll, thaw]) <;> exact rfl)
    (eH : H.set id (.row kk sh es') = H'' := by (try dsimp only [z0, z1, z2, z3, z4, z5, z6, z7, z8, z9, z10, z11, z12, z13, z14, z15, z16, y0, y1, y2, y3, y4, y5, y6, y7, y8, y9, y10, y11, y12, y13, y14, y15, Nat.reduceAdd, Nat.reduceSub, q0, q1, q2, q3, q4, q5, q6, q7, q8, q9, q10, q11, q12, q13, q14, q15, q16, q17, q18, q19, q20, q21, q22, q23, q24, q25, q26, q27, q28, q29, q30, q31, q32, q33, q34, q35, q36, q37, q38, q39, q40, q41, q42, q43, q44, q45, q46, q47, q48, q49, q50, q51, q52, q53, q54, q55, q56, q57, q58, q59, q60, q61, q62, q63, q64, q65, q66, q67, q68, q69, q70, q71, q72, q73, q74, q75, q76, q77, q78, q79, q80, q81, q82, q83, q84, q85, q86, q87, q88, q89, q90, q91, q92, q93, q94, q95, q96, q97, q98, q99, q100, q101, q102, q103, q104, q105, q106, q107, q108, q109, q110, q111, q112, q113, q114, q115, q116, q117, q118, q119, q120, q121, q122, q123, q124, q125, q126, q127, q128, q129, q130, q131, q132, q133, q134, q135, q136, q137, q138, q139, q140, q141, q142, q143, q144, q145, q146, q147, q148, q149, q150, rho, setAll, roAll, thaw]) <;> exact rfl) : NApp H id off len kk sh es xs bytes next := NApp.inplN h1 el ee eH hn
theorem NApp.roA (h1 : len = es.length) (hb : (es.length + xs.length) * bytes ≤ 2 ^ 46) (hn : next (.list sh es') H'') (h0 : off = 0 := by exact rfl)
    (ee : es ++ xs = es' := by (try dsimp only [z0, z1, z2, z3, z4, z5, z6, z7, z8, z9, z10, z11, z12, z13, z14, z15, z16, y0, y1, y2, y3, y4, y5, y6, y7, y8, y9, y10, y11, y12, y13, y14, y15, Nat.reduceAdd, Nat.reduceSub, q0, q1, q2, q3, q4, q5, q6, q7, q8, q9, q10, q11, q12, q13, q14, q15, q16, q17, q18, q19, q20, q21, q22, q23, q24, q25, q26, q27, q28, q29, q30, q31, q32, q33, q34, q35, q36, q37, q38, q39, q40, q41, q42, q43, q44, q45, q46, q47, q48, q49, q50, q51, q52, q53, q54, q55, q56, q57, q58, q59, q60, q61, q62, q63, q64, q65, q66, q67, q68, q69, q70, q71, q72, q73, q74, q75, q76, q77, q78, q79, q80, q81, q82, q83, q84, q85, q86, q87, q88, q89, q90, q91, q92, q93, q94, q95, q96, q97, q98, q99, q100, q101, q102, q103, q104, q105, q106, q107, q108, q109, q110, q111, q112, q113, q114, q115, q116, q117, q118, q119, q120, q121, q122, q123, q124, q125, q126, q127, q128, q129, q130, q131, q132, q133, q134, q135, q136, q137, q138, q139, q140, q141, q142, q143, q144, q145, q146, q147, q148, q149, q150, rho, setAll, roAll, thaw]) <;> exact rfl)
    (eH : H.set id (.ro sh es) = H'' := by (try dsimp only [z0, z1, z2, z3, z4, z5, z6, z7, z8, z9, z10, z11, z12, z13, z14, z15, z16, y0, y1, y2, y3, y4, y5, y6, y7, y8, y9, y10, y11, y12, y13, y14, y15, Nat.reduceAdd, Nat.reduceSub, q0, q1, q2, q3, q4, q5, q6, q7, q8, q9, q10, q11, q12, q13, q14, q15, q16, q17, q18, q19, q20, q21, q22, q23, q24, q25, q26, q27, q28, q29, q30, q31, q32, q33, q34, q35, q36, q37, q38, q39, q40, q41, q42, q43, q44, q45, q46, q47, q48, q49, q50, q51, q52, q53, q54, q55, q56, q57, q58, q59, q60, q61, q62, q63, q64, q65, q66, q67, q68, q69, q70, q71, q72, q73, q74, q75, q76, q77, q78, q79, q80, q81, q82, q83, q84, q85, q86, q87, q88, q89, q90, q91, q92, q93, q94, q95, q96, q97, q98, q99, q100, q101, q102, q103, q104, q105, q106, q107, q108, q109, q110, q111, q112, q113, q114, q115, q116, q117, q118, q119, q120, q121, q122, q123, q124, q125, q126, q127, q128, q129, q130, q131, q132, q133, q134, q135, q136, q137, q138, q139, q140, q141, q142, q143, q144, q145, q146, q147, q148, q149, q150, rho, setAll, roAll, thaw]) <;> exact rfl) : NApp H id off len kk sh es xs bytes next := by
  subst ee eH; exact .ro h0 h1 hb hn
end
theorem NB.yes {b : Bool} {T E : Prop} (hb : b = true) (h : T) : NB b T E := by subst hb; exact h
theorem NB.no {b : Bool} {T E : Prop} (hb : b = false) (h : E) : NB b T E := by subst hb; exact h
/-- An answer that holds nothing owned. -/
theorem NRet.val {P : Program} {Γ : Tab P} {n0 : Nat} {rs : List ResultVar} {r : AV} {H' : List Blk} {fr : Fr} {H : List Blk}
    (h : ares Γ fr H rs fun as => cvsA n0 [] H as fun vs => cvH n0 [] H (List.range n0 ++ []) fun H'' => LeA (mkRes vs) r ∧ H' = H'') : NRet Γ n0 rs r H' fr H := .mk [] rfl h
end Go.Bv
namespace Go.Bv
open Go
section
variable {ρ : Nat → Nat} {C : Ctx} {p : Nat} (hρ : ∀ id, id < C.H.length → id ≠ p → ρ id = id)
include hρ
end
section
variable {P : Program} (Γ : Tab P) {n : Nat} {ops : Array Oper}
end
end Go.Bv
namespace Go.Bv
open Go
section
variable {P : Program} {Γ : Tab P} {n0 : Nat} {rs : List ResultVar} {H' : List Blk} {fr : Fr} {H : List Blk}
theorem NRet.boolE {q b : Bool} (h : b = q) (hn : NRet Γ n0 rs (.bool b) H' fr H) : NRet Γ n0 rs (.bool q) H' fr H := h ▸ hn
theorem NRet.intE {x y : Int} (h : x = y) (hn : NRet Γ n0 rs (i64 x) H' fr H) : NRet Γ n0 rs (i64 y) H' fr H := h ▸ hn
end
theorem setAll_same : ∀ (S : List Nat) (R H : List Blk), (∀ (i j : Nat) (b : Blk), S[i]? = some j → R[i]? = some b → H[j]? = some b) → setAll H S R = H
  | [], R, H, _ => by cases R <;> rfl
  | s :: S, [], H, _ => rfl
  | s :: S, b :: R, H, h => by
    have h0 := h 0 s b rfl rfl
    obtain ⟨hl, he⟩ := List.getElem?_eq_some_iff.1 h0
    rw [setAll, show H.set s b = H by rw [← he]; exact List.set_getElem_self hl]
    exact setAll_same S R H fun i j b hi hb => h (i + 1) j b (by simpa using hi) (by simpa using hb)
/-- A call that leaves the blocks that it looks at. -/
theorem NCall.subSame {P : Program} {f : FuncId} {args args0 : List AV} {H H0 : List Blk} {r r' : AV} {next : AV → List Blk → Prop} (S : List Nat) (h : ACalls P f args0 H0 r H0) (hn : next r' H) (hS : nodupB S = true := by exact rfl)
    (hH : S.map (fun j => H[j]?) = H0.map (fun b => some (b.rn (rho S H.length))) := by exact rfl) (ha : args = args0.map (AV.rnA (rho S H.length)) := by exact rfl) (er : r.rnT (rho S H.length) = r' := by (try dsimp only [AV.rnT, AV.rnA, AV.rnR, AV.rn1]) <;> exact rfl) : NCall P f args H next := by
  have hl : S.length = H0.length := by have := congrArg List.length hH; simpa using this
  have e1 : (H0.drop S.length) = [] := List.drop_eq_nil_of_le (by omega)
  have e2 : H0.take S.length = H0 := List.take_of_length_le (by omega)
  refine NCall.sub S h hS hH ha er (H'' := H) ?_ hn
  rw [e1, e2, List.map_nil, List.append_nil]
  refine setAll_same S _ H fun i j b hi hb => ?_
  have := congrArg (fun l => l[i]?) hH
  simp only [List.getElem?_map, hi, Option.map_some] at this
  rw [List.getElem?_map] at hb
  cases hq : H0[i]? with
  | none => rw [hq] at hb; simp at hb
  | some c =>
    rw [hq] at hb this
    simp only [Option.map_some, Option.some.injEq] at hb this
    rw [this, hb]
end Go.Bv
namespace Go.Bv
open Go Go.Proofs
set_option maxRecDepth 100000 in
def tab.tbl : List (Option TI) := [
  (some ⟨.leaf, 0, .other, .undef⟩),
  (some ⟨.leaf, 8, .other, .nilfn⟩),
  (some ⟨.leaf, 8, (.int .i64), (.int .i64 0)⟩),
  (some ⟨.leaf, 8, (.int .i64), (.int .i64 0)⟩),
  (some ⟨.leaf, 1, .bool, (.bool false)⟩),
  (some ⟨.leaf, 1, (.int .u8), (.int .u8 0)⟩),
  (some ⟨.leaf, 1, (.int .u8), (.int .u8 0)⟩),
  (some ⟨(.agg 4), 24, (.struct ((0, .leaf) :: ((1, .leaf) :: ((2, .leaf) :: ((3, .leaf) :: [])))) (some (0 :: (0 :: (2 :: (0 :: [])))))), (.agg ((.int .i64 0) :: ((.int .i64 0) :: ((.bool false) :: ((.int .u8 0) :: [])))))⟩),
  (some ⟨(.agg 4), 24, (.struct ((0, .leaf) :: ((1, .leaf) :: ((2, .leaf) :: ((3, .leaf) :: [])))) (some (0 :: (0 :: (2 :: (0 :: [])))))), (.agg ((.int .i64 0) :: ((.int .i64 0) :: ((.bool false) :: ((.int .u8 0) :: [])))))⟩),
  (some ⟨.leaf, 16, .str, (.str [])⟩),
  (some ⟨.leaf, 16, .str, (.str [])⟩),
  (some ⟨.leaf, 16, .str, (.str [])⟩),
  (some ⟨.leaf, 8, (.int .u64), (.int .u64 0)⟩),
  (some ⟨(.agg 2), 24, (.struct ((0, .leaf) :: ((1, .leaf) :: [])) none), (.agg ((.str []) :: ((.int .u64 0) :: [])))⟩),
  (some ⟨(.agg 2), 24, (.struct ((0, .leaf) :: ((1, .leaf) :: [])) none), (.agg ((.str []) :: ((.int .u64 0) :: [])))⟩),
  (some ⟨.leaf, 8, .other, .undef⟩),
  (some ⟨.leaf, 8, .other, .undef⟩),
  (some ⟨.leaf, 8, .other, .undef⟩),
  (some ⟨(.agg 1), 8, (.struct ((0, .leaf) :: []) none), (.agg (.undef :: []))⟩),
  (some ⟨(.agg 1), 8, (.struct ((0, .leaf) :: []) none), (.agg (.undef :: []))⟩),
  (some ⟨.leaf, 16, .other, .undef⟩),
  (some ⟨.leaf, 4, (.int .i32), (.int .i32 0)⟩),
  (some ⟨.leaf, 24, (.slice 3), .nils⟩),
  (some ⟨.leaf, 24, (.slice 3), .nils⟩),
  (some ⟨.leaf, 24, (.slice 66), .nils⟩),
  (some ⟨(.agg 4), 64, (.struct ((0, .leaf) :: ((1, .leaf) :: ((2, .leaf) :: ((3, .leaf) :: [])))) none), (.agg ((.int .i64 0) :: ((.int .i64 0) :: (.nils :: (.nils :: [])))))⟩),
  (some ⟨(.agg 4), 64, (.struct ((0, .leaf) :: ((1, .leaf) :: ((2, .leaf) :: ((3, .leaf) :: [])))) none), (.agg ((.int .i64 0) :: ((.int .i64 0) :: (.nils :: (.nils :: [])))))⟩),
  (some ⟨.leaf, 24, (.slice 5), .nils⟩),
  (some ⟨.leaf, 8, .other, .nilfn⟩),
  (some ⟨.leaf, 8, .other, .nilfn⟩),
  (some ⟨.leaf, 24, (.slice 26), .nils⟩),
  (some ⟨.leaf, 8, (.int .i64), (.int .i64 0)⟩),
  (some ⟨.leaf, 0, .other, .undef⟩),
  (some ⟨.leaf, 8, .other, .nilfn⟩),
  (some ⟨.leaf, 0, .other, .undef⟩),
  (some ⟨.leaf, 8, .other, .nilfn⟩),
  (some ⟨.leaf, 8, .other, .nilfn⟩),
  (some ⟨.leaf, 8, .other, .nilfn⟩),
  (some ⟨.leaf, 8, .other, .nilfn⟩),
  (some ⟨.leaf, 8, .other, .nilfn⟩),
  (some ⟨.leaf, 8, .other, .nilfn⟩),
  (some ⟨.leaf, 24, (.slice 9), .nils⟩),
  (some ⟨.leaf, 8, .other, .nilfn⟩),
  (some ⟨.leaf, 8, .other, .nilfn⟩),
  (some ⟨.leaf, 8, .other, .nilfn⟩),
  (some ⟨.leaf, 8, .other, .nilfn⟩),
  (some ⟨(.agg 3), 24, (.struct ((0, .leaf) :: ((1, .leaf) :: ((2, .leaf) :: []))) (some (0 :: (0 :: (0 :: []))))), (.agg ((.int .i64 0) :: ((.int .i64 0) :: ((.int .i64 0) :: []))))⟩),
  (some ⟨(.agg 3), 24, (.struct ((0, .leaf) :: ((1, .leaf) :: ((2, .leaf) :: []))) (some (0 :: (0 :: (0 :: []))))), (.agg ((.int .i64 0) :: ((.int .i64 0) :: ((.int .i64 0) :: []))))⟩),
  (some ⟨.leaf, 8, .other, .nilfn⟩),
  (some ⟨.leaf, 8, .other, .nilfn⟩),
  (some ⟨.leaf, 8, .other, .nilfn⟩),
  (some ⟨.leaf, 8, .other, .nilfn⟩),
  (some ⟨.leaf, 24, (.slice 68), .nils⟩),
  (some ⟨.leaf, 8, .other, .nilfn⟩),
  (some ⟨.leaf, 8, .other, .nilfn⟩),
  (some ⟨.leaf, 8, .other, .nilfn⟩),
  (some ⟨.leaf, 8, .other, .nilfn⟩),
  (some ⟨.leaf, 8, .other, .nilfn⟩),
  (some ⟨.leaf, 8, .other, .nilfn⟩),
  (some ⟨.leaf, 8, .other, .nilfn⟩),
  (some ⟨.leaf, 8, .other, .nilfn⟩),
  (some ⟨.leaf, 8, .other, .nilfn⟩),
  (some ⟨.leaf, 8, .other, .nilfn⟩),
  (some ⟨.leaf, 8, .other, .nilfn⟩),
  (some ⟨.leaf, 24, (.slice 47), .nils⟩),
  (some ⟨(.agg 7), 96, (.struct ((0, .leaf) :: ((1, .leaf) :: ((2, .leaf) :: ((3, .leaf) :: ((4, .leaf) :: ((5, .leaf) :: ((6, .leaf) :: []))))))) none), (.agg ((.int .i64 0) :: ((.str []) :: ((.str []) :: ((.int .i64 0) :: ((.str []) :: ((.int .i64 0) :: (.nils :: []))))))))⟩),
  (some ⟨(.agg 7), 96, (.struct ((0, .leaf) :: ((1, .leaf) :: ((2, .leaf) :: ((3, .leaf) :: ((4, .leaf) :: ((5, .leaf) :: ((6, .leaf) :: []))))))) none), (.agg ((.int .i64 0) :: ((.str []) :: ((.str []) :: ((.int .i64 0) :: ((.str []) :: ((.int .i64 0) :: (.nils :: []))))))))⟩),
  (some ⟨(.agg 8), 88, (.struct ((0, .leaf) :: ((1, .leaf) :: ((2, .leaf) :: ((3, .leaf) :: ((4, .leaf) :: ((5, (.agg 3)) :: [])))))) (some (1 :: (1 :: (0 :: (1 :: (0 :: (0 :: (0 :: (0 :: [])))))))))), (.agg ((.str []) :: ((.str []) :: ((.int .i64 0) :: ((.str []) :: ((.int .i64 0) :: ((.int .i64 0) :: ((.int .i64 0) :: ((.int .i64 0) :: [])))))))))⟩),
  (some ⟨(.agg 8), 88, (.struct ((0, .leaf) :: ((1, .leaf) :: ((2, .leaf) :: ((3, .leaf) :: ((4, .leaf) :: ((5, (.agg 3)) :: [])))))) (some (1 :: (1 :: (0 :: (1 :: (0 :: (0 :: (0 :: (0 :: [])))))))))), (.agg ((.str []) :: ((.str []) :: ((.int .i64 0) :: ((.str []) :: ((.int .i64 0) :: ((.int .i64 0) :: ((.int .i64 0) :: ((.int .i64 0) :: [])))))))))⟩),
  (some ⟨.leaf, 8, .other, .nilfn⟩),
  (some ⟨.leaf, 8, .other, .nilfn⟩),
  (some ⟨.leaf, 8, .other, .nilfn⟩),
  (some ⟨.leaf, 8, .other, .nilfn⟩),
  (some ⟨.leaf, 8, .other, .nilfn⟩),
  (some ⟨.leaf, 8, .other, .nilfn⟩),
  (some ⟨.leaf, 8, .other, .nilfn⟩),
  (some ⟨.leaf, 8, .other, .nilfn⟩),
  (some ⟨.leaf, 8, .other, .undef⟩),
  (some ⟨(.agg 2), 32, (.struct ((0, .leaf) :: ((1, .leaf) :: [])) none), (.agg (.nils :: ((.int .i64 0) :: [])))⟩),
  (some ⟨(.agg 2), 32, (.struct ((0, .leaf) :: ((1, .leaf) :: [])) none), (.agg (.nils :: ((.int .i64 0) :: [])))⟩),
  (some ⟨.leaf, 8, .other, .nilfn⟩),
  (some ⟨.leaf, 8, .other, .nilfn⟩),
  (some ⟨.leaf, 8, .other, .nilfn⟩),
  (some ⟨.leaf, 8, .other, .nilfn⟩),
  (some ⟨.leaf, 8, .other, .nilfn⟩),
  (some ⟨.leaf, 8, .other, .nilfn⟩),
  (some ⟨.leaf, 8, .other, .nilfn⟩),
  (some ⟨.leaf, 8, .other, .nilfn⟩),
  (some ⟨.leaf, 8, .other, .nilfn⟩),
  (some ⟨.leaf, 8, .other, .nilfn⟩),
  (some ⟨.leaf, 8, .other, .nilfn⟩),
  (some ⟨.leaf, 8, .other, .nilfn⟩),
  (some ⟨.leaf, 8, .other, .nilfn⟩),
  (some ⟨.leaf, 8, .other, .nilfn⟩),
  (some ⟨.leaf, 8, .other, .nilfn⟩),
  (some ⟨.leaf, 8, .other, .nilfn⟩),
  (some ⟨.leaf, 8, .other, .nilfn⟩),
  (some ⟨.leaf, 8, .other, .nilfn⟩),
  (some ⟨.leaf, 8, .other, .nilfn⟩),
  (some ⟨.leaf, 8, .other, .nilfn⟩),
  (some ⟨.leaf, 8, .other, .nilfn⟩),
  (some ⟨.leaf, 8, .other, .nilfn⟩),
  (some ⟨.leaf, 8, .other, .nilfn⟩),
  (some ⟨.leaf, 8, (.int .u64), (.int .u64 0)⟩),
  (some ⟨.leaf, 8, (.int .u64), (.int .u64 0)⟩),
  (some ⟨.leaf, 0, .other, .undef⟩),
  (some ⟨.leaf, 8, .other, .nilfn⟩),
  (some ⟨.leaf, 8, .other, .nilfn⟩),
  (some ⟨.leaf, 8, .other, .nilfn⟩),
  (some ⟨.leaf, 8, .other, .nilfn⟩),
  (some ⟨.leaf, 8, .other, .nilfn⟩),
  (some ⟨.leaf, 8, .other, .nilfn⟩),
  (some ⟨.leaf, 0, .other, .undef⟩),
  (some ⟨.leaf, 8, .other, .nilfn⟩),
  (some ⟨.leaf, 8, .other, .nilfn⟩),
  (some ⟨.leaf, 8, .other, .nilfn⟩),
  (some ⟨.leaf, 8, .other, .nilfn⟩),
  (some ⟨.leaf, 8, .other, .nilfn⟩),
  (some ⟨.leaf, 8, .other, .nilfn⟩),
  (some ⟨.leaf, 8, .other, .nilfn⟩),
  (some ⟨.leaf, 8, .other, .nilfn⟩),
  (some ⟨.leaf, 8, (.map 47 4), (.tup [])⟩),
  (some ⟨(.agg 2), 16, (.array 2 3), (.agg ((.int .i64 0) :: ((.int .i64 0) :: [])))⟩),
  (some ⟨.leaf, 24, (.slice 122), .nils⟩),
  (some ⟨.leaf, 8, .other, .nilfn⟩),
  (some ⟨.leaf, 8, .other, .nilfn⟩),
  (some ⟨.leaf, 8, .other, .nilfn⟩),
  (some ⟨.leaf, 0, .other, .undef⟩),
  (some ⟨.leaf, 8, .other, .nilfn⟩),
  (some ⟨.leaf, 0, .other, .undef⟩),
  (some ⟨.leaf, 8, .other, .nilfn⟩),
  (some ⟨.leaf, 8, .other, .nilfn⟩),
  (some ⟨.leaf, 8, .other, .nilfn⟩),
  (some ⟨.leaf, 8, .other, .nilfn⟩),
  (some ⟨.leaf, 8, .other, .nilfn⟩),
  (some ⟨.leaf, 8, .other, .nilfn⟩),
  (some ⟨.leaf, 8, .other, .nilfn⟩),
  (some ⟨.leaf, 8, .other, .nilfn⟩),
  (some ⟨.leaf, 8, .other, .nilfn⟩),
  (some ⟨.leaf, 8, .other, .nilfn⟩),
  (some ⟨.leaf, 8, .other, .nilfn⟩),
  (some ⟨.leaf, 8, .other, .nilfn⟩),
  (some ⟨.leaf, 8, (.int .i64), (.int .i64 0)⟩),
  (some ⟨.leaf, 0, .other, .undef⟩),
  (some ⟨.leaf, 8, .other, .nilfn⟩),
  (some ⟨.leaf, 8, .other, .nilfn⟩),
  (some ⟨.leaf, 8, .other, .nilfn⟩),
  (some ⟨.leaf, 0, .other, .undef⟩),
  (some ⟨.leaf, 8, .other, .nilfn⟩),
  (some ⟨.leaf, 8, .other, .nilfn⟩),
  (some ⟨.leaf, 4, (.int .u32), (.int .u32 0)⟩),
  (some ⟨.leaf, 8, .other, .nilfn⟩),
  (some ⟨.leaf, 8, .other, .nilfn⟩),
  (some ⟨.leaf, 8, (.int .u64), (.int .u64 0)⟩),
  (some ⟨.leaf, 8, .other, .nilfn⟩),
  (some ⟨.leaf, 8, .other, .nilfn⟩),
  (some ⟨.leaf, 8, .other, .nilfn⟩),
  (some ⟨.leaf, 8, .other, .undef⟩),
  (some ⟨.leaf, 8, .other, .nilfn⟩),
  (some ⟨.leaf, 8, .other, .undef⟩),
  (some ⟨.leaf, 0, .other, .undef⟩),
  (some ⟨.leaf, 8, .other, .nilfn⟩),
  (some ⟨(.agg 4), 40, (.struct ((0, .leaf) :: ((1, .leaf) :: ((2, .leaf) :: ((3, .leaf) :: [])))) none), (.agg (.undef :: (.undef :: (.undef :: ((.str []) :: [])))))⟩),
  (some ⟨(.agg 4), 40, (.struct ((0, .leaf) :: ((1, .leaf) :: ((2, .leaf) :: ((3, .leaf) :: [])))) none), (.agg (.undef :: (.undef :: (.undef :: ((.str []) :: [])))))⟩),
  (some ⟨(.agg 0), 0, (.array 0 16), (.agg [])⟩),
  (some ⟨(.agg 0), 0, (.struct ((0, (.agg 0)) :: []) none), (.agg [])⟩),
  (some ⟨(.agg 0), 0, (.struct ((0, (.agg 0)) :: []) none), (.agg [])⟩),
  (some ⟨.leaf, 1, (.int .u8), (.int .u8 0)⟩),
  (some ⟨.leaf, 1, (.int .u8), (.int .u8 0)⟩),
  (some ⟨.leaf, 8, .other, .nilfn⟩),
  (some ⟨.leaf, 8, .other, .undef⟩),
  (some ⟨.leaf, 4, (.int .i32), (.int .i32 0)⟩),
  (some ⟨.leaf, 4, (.int .i32), (.int .i32 0)⟩),
  (some ⟨(.agg 11), 48, (.struct ((0, .leaf) :: ((1, .leaf) :: ((2, .leaf) :: ((3, .leaf) :: ((4, .leaf) :: ((5, .leaf) :: ((6, .leaf) :: ((7, .leaf) :: ((8, .leaf) :: ((9, .leaf) :: ((10, .leaf) :: []))))))))))) none), (.agg ((.int .u64 0) :: ((.int .u64 0) :: ((.int .u32 0) :: ((.int .u8 0) :: ((.int .u8 0) :: ((.int .u8 0) :: ((.int .u8 0) :: (.nilfn :: (.undef :: ((.int .i32 0) :: ((.int .i32 0) :: []))))))))))))⟩),
  (some ⟨(.agg 11), 48, (.struct ((0, .leaf) :: ((1, .leaf) :: ((2, .leaf) :: ((3, .leaf) :: ((4, .leaf) :: ((5, .leaf) :: ((6, .leaf) :: ((7, .leaf) :: ((8, .leaf) :: ((9, .leaf) :: ((10, .leaf) :: []))))))))))) none), (.agg ((.int .u64 0) :: ((.int .u64 0) :: ((.int .u32 0) :: ((.int .u8 0) :: ((.int .u8 0) :: ((.int .u8 0) :: ((.int .u8 0) :: (.nilfn :: (.undef :: ((.int .i32 0) :: ((.int .i32 0) :: []))))))))))))⟩),
  (some ⟨.leaf, 8, .other, .undef⟩)]
theorem tab.eq : tab.tbl = (List.range 176).map fun t => tiOf Try.prog t := by kernel_rfl
def tab : Tab Try.prog := ⟨tab.tbl, fun t ti h => by
  rw [tab.eq, List.getElem?_map] at h
  rcases Nat.lt_or_ge t 176 with hlt | hge
  · rw [List.getElem?_range hlt] at h; simpa using h
  · rw [List.getElem?_eq_none (by simpa using hge)] at h; simp at h⟩
end Go.Bv
namespace Go.Bv.Nm
open Go Go.Proofs
abbrev law10_EffAgain : Nat := 8
noncomputable abbrev law10_EffAgain_f : Func := Try.f8
theorem law10_EffAgain_h : Try.prog.funcs[law10_EffAgain]? = some law10_EffAgain_f := Try.func8
abbrev law10_awake : Nat := 25
noncomputable abbrev law10_awake_f : Func := Try.f25
theorem law10_awake_h : Try.prog.funcs[law10_awake]? = some law10_awake_f := Try.func25
abbrev ref10_Short : Nat := 26
noncomputable abbrev ref10_Short_f : Func := Try.f26
theorem ref10_Short_h : Try.prog.funcs[ref10_Short]? = some ref10_Short_f := Try.func26
abbrev ref09_Short : Nat := 27
noncomputable abbrev ref09_Short_f : Func := Try.f27
theorem ref09_Short_h : Try.prog.funcs[ref09_Short]? = some ref09_Short_f := Try.func27
abbrev eff_Right : Nat := 28
noncomputable abbrev eff_Right_f : Func := Try.f28
theorem eff_Right_h : Try.prog.funcs[eff_Right]? = some eff_Right_f := Try.func28
abbrev law10_has : Nat := 30
noncomputable abbrev law10_has_f : Func := Try.f30
theorem law10_has_h : Try.prog.funcs[law10_has]? = some law10_has_f := Try.func30
abbrev ref09_Same : Nat := 31
noncomputable abbrev ref09_Same_f : Func := Try.f31
theorem ref09_Same_h : Try.prog.funcs[ref09_Same]? = some ref09_Same_f := Try.func31
abbrev eff_Do : Nat := 32
noncomputable abbrev eff_Do_f : Func := Try.f32
theorem eff_Do_h : Try.prog.funcs[eff_Do]? = some eff_Do_f := Try.func32
abbrev eff_Formed : Nat := 65
noncomputable abbrev eff_Formed_f : Func := Try.f65
theorem eff_Formed_h : Try.prog.funcs[eff_Formed]? = some eff_Formed_f := Try.func65
abbrev slices_ContainsFunc_api_Dot_api_Dot : Nat := 66
noncomputable abbrev slices_ContainsFunc_api_Dot_api_Dot_f : Func := Try.f66
theorem slices_ContainsFunc_api_Dot_api_Dot_h : Try.prog.funcs[slices_ContainsFunc_api_Dot_api_Dot]? = some slices_ContainsFunc_api_Dot_api_Dot_f := Try.func66
abbrev eff_Right_1 : Nat := 67
noncomputable abbrev eff_Right_1_f : Func := Try.f67
theorem eff_Right_1_h : Try.prog.funcs[eff_Right_1]? = some eff_Right_1_f := Try.func67
abbrev slices_Clone_api_Item_api_Item : Nat := 68
noncomputable abbrev slices_Clone_api_Item_api_Item_f : Func := Try.f68
theorem slices_Clone_api_Item_api_Item_h : Try.prog.funcs[slices_Clone_api_Item_api_Item]? = some slices_Clone_api_Item_api_Item_f := Try.func68
abbrev item_Without : Nat := 69
noncomputable abbrev item_Without_f : Func := Try.f69
theorem item_Without_h : Try.prog.funcs[item_Without]? = some item_Without_f := Try.func69
abbrev eff_made : Nat := 70
noncomputable abbrev eff_made_f : Func := Try.f70
theorem eff_made_h : Try.prog.funcs[eff_made]? = some eff_made_f := Try.func70
abbrev item_Norm : Nat := 71
noncomputable abbrev item_Norm_f : Func := Try.f71
theorem item_Norm_h : Try.prog.funcs[item_Norm]? = some item_Norm_f := Try.func71
abbrev eff_dot : Nat := 86
noncomputable abbrev eff_dot_f : Func := Try.f86
theorem eff_dot_h : Try.prog.funcs[eff_dot]? = some eff_dot_f := Try.func86
abbrev eff_order : Nat := 87
noncomputable abbrev eff_order_f : Func := Try.f87
theorem eff_order_h : Try.prog.funcs[eff_order]? = some eff_order_f := Try.func87
abbrev item_Formed : Nat := 88
noncomputable abbrev item_Formed_f : Func := Try.f88
theorem item_Formed_h : Try.prog.funcs[item_Formed]? = some item_Formed_f := Try.func88
abbrev slices_IndexFunc_api_Dot_api_Dot : Nat := 89
noncomputable abbrev slices_IndexFunc_api_Dot_api_Dot_f : Func := Try.f89
theorem slices_IndexFunc_api_Dot_api_Dot_h : Try.prog.funcs[slices_IndexFunc_api_Dot_api_Dot]? = some slices_IndexFunc_api_Dot_api_Dot_f := Try.func89
abbrev slices_DeleteFunc_api_Item_api_Item : Nat := 90
noncomputable abbrev slices_DeleteFunc_api_Item_api_Item_f : Func := Try.f90
theorem slices_DeleteFunc_api_Item_api_Item_h : Try.prog.funcs[slices_DeleteFunc_api_Item_api_Item]? = some slices_DeleteFunc_api_Item_api_Item_f := Try.func90
abbrev item_Without_1 : Nat := 91
noncomputable abbrev item_Without_1_f : Func := Try.f91
theorem item_Without_1_h : Try.prog.funcs[item_Without_1]? = some item_Without_1_f := Try.func91
abbrev slices_Contains_api_Dot_api_Dot : Nat := 92
noncomputable abbrev slices_Contains_api_Dot_api_Dot_f : Func := Try.f92
theorem slices_Contains_api_Dot_api_Dot_h : Try.prog.funcs[slices_Contains_api_Dot_api_Dot]? = some slices_Contains_api_Dot_api_Dot_f := Try.func92
abbrev slices_SortFunc_api_Item_api_Item : Nat := 93
noncomputable abbrev slices_SortFunc_api_Item_api_Item_f : Func := Try.f93
theorem slices_SortFunc_api_Item_api_Item_h : Try.prog.funcs[slices_SortFunc_api_Item_api_Item]? = some slices_SortFunc_api_Item_api_Item_f := Try.func93
abbrev item_compare : Nat := 94
noncomputable abbrev item_compare_f : Func := Try.f94
theorem item_compare_h : Try.prog.funcs[item_compare]? = some item_compare_f := Try.func94
abbrev item_Norm_1 : Nat := 95
noncomputable abbrev item_Norm_1_f : Func := Try.f95
theorem item_Norm_1_h : Try.prog.funcs[item_Norm_1]? = some item_Norm_1_f := Try.func95
abbrev cmp_Or_int : Nat := 108
noncomputable abbrev cmp_Or_int_f : Func := Try.f108
theorem cmp_Or_int_h : Try.prog.funcs[cmp_Or_int]? = some cmp_Or_int_f := Try.func108
abbrev cmp_Compare_int : Nat := 109
noncomputable abbrev cmp_Compare_int_f : Func := Try.f109
theorem cmp_Compare_int_h : Try.prog.funcs[cmp_Compare_int]? = some cmp_Compare_int_f := Try.func109
abbrev zone_Key : Nat := 110
noncomputable abbrev zone_Key_f : Func := Try.f110
theorem zone_Key_h : Try.prog.funcs[zone_Key]? = some zone_Key_f := Try.func110
abbrev slices_IndexFunc_api_Item_api_Item : Nat := 111
noncomputable abbrev slices_IndexFunc_api_Item_api_Item_f : Func := Try.f111
theorem slices_IndexFunc_api_Item_api_Item_h : Try.prog.funcs[slices_IndexFunc_api_Item_api_Item]? = some slices_IndexFunc_api_Item_api_Item_f := Try.func111
abbrev slices_Index_api_Dot_api_Dot : Nat := 112
noncomputable abbrev slices_Index_api_Dot_api_Dot_f : Func := Try.f112
theorem slices_Index_api_Dot_api_Dot_h : Try.prog.funcs[slices_Index_api_Dot_api_Dot]? = some slices_Index_api_Dot_api_Dot_f := Try.func112
abbrev slices_pdqsortCmpFunc_api_Item : Nat := 113
noncomputable abbrev slices_pdqsortCmpFunc_api_Item_f : Func := Try.f113
theorem slices_pdqsortCmpFunc_api_Item_h : Try.prog.funcs[slices_pdqsortCmpFunc_api_Item]? = some slices_pdqsortCmpFunc_api_Item_f := Try.func113
abbrev math_bits_Len : Nat := 114
noncomputable abbrev math_bits_Len_f : Func := Try.f114
theorem math_bits_Len_h : Try.prog.funcs[math_bits_Len]? = some math_bits_Len_f := Try.func114
abbrev cmp_Compare_string : Nat := 115
noncomputable abbrev cmp_Compare_string_f : Func := Try.f115
theorem cmp_Compare_string_h : Try.prog.funcs[cmp_Compare_string]? = some cmp_Compare_string_f := Try.func115
abbrev cmp_Compare_int64 : Nat := 116
noncomputable abbrev cmp_Compare_int64_f : Func := Try.f116
theorem cmp_Compare_int64_h : Try.prog.funcs[cmp_Compare_int64]? = some cmp_Compare_int64_f := Try.func116
abbrev cmp_isNaN_int : Nat := 119
noncomputable abbrev cmp_isNaN_int_f : Func := Try.f119
theorem cmp_isNaN_int_h : Try.prog.funcs[cmp_isNaN_int]? = some cmp_isNaN_int_f := Try.func119
abbrev zone_prefix : Nat := 120
noncomputable abbrev zone_prefix_f : Func := Try.f120
theorem zone_prefix_h : Try.prog.funcs[zone_prefix]? = some zone_prefix_f := Try.func120
abbrev slices_insertionSortCmpFunc_api_Item : Nat := 121
noncomputable abbrev slices_insertionSortCmpFunc_api_Item_f : Func := Try.f121
theorem slices_insertionSortCmpFunc_api_Item_h : Try.prog.funcs[slices_insertionSortCmpFunc_api_Item]? = some slices_insertionSortCmpFunc_api_Item_f := Try.func121
abbrev slices_heapSortCmpFunc_api_Item : Nat := 122
noncomputable abbrev slices_heapSortCmpFunc_api_Item_f : Func := Try.f122
theorem slices_heapSortCmpFunc_api_Item_h : Try.prog.funcs[slices_heapSortCmpFunc_api_Item]? = some slices_heapSortCmpFunc_api_Item_f := Try.func122
abbrev slices_breakPatternsCmpFunc_api_Item : Nat := 123
noncomputable abbrev slices_breakPatternsCmpFunc_api_Item_f : Func := Try.f123
theorem slices_breakPatternsCmpFunc_api_Item_h : Try.prog.funcs[slices_breakPatternsCmpFunc_api_Item]? = some slices_breakPatternsCmpFunc_api_Item_f := Try.func123
abbrev slices_choosePivotCmpFunc_api_Item : Nat := 124
noncomputable abbrev slices_choosePivotCmpFunc_api_Item_f : Func := Try.f124
theorem slices_choosePivotCmpFunc_api_Item_h : Try.prog.funcs[slices_choosePivotCmpFunc_api_Item]? = some slices_choosePivotCmpFunc_api_Item_f := Try.func124
abbrev slices_reverseRangeCmpFunc_api_Item : Nat := 125
noncomputable abbrev slices_reverseRangeCmpFunc_api_Item_f : Func := Try.f125
theorem slices_reverseRangeCmpFunc_api_Item_h : Try.prog.funcs[slices_reverseRangeCmpFunc_api_Item]? = some slices_reverseRangeCmpFunc_api_Item_f := Try.func125
abbrev slices_partialInsertionSortCmpFunc_api_Item : Nat := 126
noncomputable abbrev slices_partialInsertionSortCmpFunc_api_Item_f : Func := Try.f126
theorem slices_partialInsertionSortCmpFunc_api_Item_h : Try.prog.funcs[slices_partialInsertionSortCmpFunc_api_Item]? = some slices_partialInsertionSortCmpFunc_api_Item_f := Try.func126
abbrev slices_partitionEqualCmpFunc_api_Item : Nat := 127
noncomputable abbrev slices_partitionEqualCmpFunc_api_Item_f : Func := Try.f127
theorem slices_partitionEqualCmpFunc_api_Item_h : Try.prog.funcs[slices_partitionEqualCmpFunc_api_Item]? = some slices_partitionEqualCmpFunc_api_Item_f := Try.func127
abbrev slices_partitionCmpFunc_api_Item : Nat := 128
noncomputable abbrev slices_partitionCmpFunc_api_Item_f : Func := Try.f128
theorem slices_partitionCmpFunc_api_Item_h : Try.prog.funcs[slices_partitionCmpFunc_api_Item]? = some slices_partitionCmpFunc_api_Item_f := Try.func128
abbrev math_bits_Len64 : Nat := 130
noncomputable abbrev math_bits_Len64_f : Func := Try.f130
theorem math_bits_Len64_h : Try.prog.funcs[math_bits_Len64]? = some math_bits_Len64_f := Try.func130
abbrev cmp_isNaN_string : Nat := 131
noncomputable abbrev cmp_isNaN_string_f : Func := Try.f131
theorem cmp_isNaN_string_h : Try.prog.funcs[cmp_isNaN_string]? = some cmp_isNaN_string_f := Try.func131
abbrev cmp_isNaN_int64 : Nat := 132
noncomputable abbrev cmp_isNaN_int64_f : Func := Try.f132
theorem cmp_isNaN_int64_h : Try.prog.funcs[cmp_isNaN_int64]? = some cmp_isNaN_int64_f := Try.func132
abbrev slices_siftDownCmpFunc_api_Item : Nat := 133
noncomputable abbrev slices_siftDownCmpFunc_api_Item_f : Func := Try.f133
theorem slices_siftDownCmpFunc_api_Item_h : Try.prog.funcs[slices_siftDownCmpFunc_api_Item]? = some slices_siftDownCmpFunc_api_Item_f := Try.func133
abbrev slices_nextPowerOfTwo : Nat := 134
noncomputable abbrev slices_nextPowerOfTwo_f : Func := Try.f134
theorem slices_nextPowerOfTwo_h : Try.prog.funcs[slices_nextPowerOfTwo]? = some slices_nextPowerOfTwo_f := Try.func134
abbrev slices_medianAdjacentCmpFunc_api_Item : Nat := 136
noncomputable abbrev slices_medianAdjacentCmpFunc_api_Item_f : Func := Try.f136
theorem slices_medianAdjacentCmpFunc_api_Item_h : Try.prog.funcs[slices_medianAdjacentCmpFunc_api_Item]? = some slices_medianAdjacentCmpFunc_api_Item_f := Try.func136
abbrev slices_medianCmpFunc_api_Item : Nat := 137
noncomputable abbrev slices_medianCmpFunc_api_Item_f : Func := Try.f137
theorem slices_medianCmpFunc_api_Item_h : Try.prog.funcs[slices_medianCmpFunc_api_Item]? = some slices_medianCmpFunc_api_Item_f := Try.func137
abbrev slices_order2CmpFunc_api_Item : Nat := 138
noncomputable abbrev slices_order2CmpFunc_api_Item_f : Func := Try.f138
theorem slices_order2CmpFunc_api_Item_h : Try.prog.funcs[slices_order2CmpFunc_api_Item]? = some slices_order2CmpFunc_api_Item_f := Try.func138
end Go.Bv.Nm
namespace Go.Bv
open Go Go.Proofs
theorem mixed : Try.prog.follows .mixedOrders = true := by kernel_rfl
end Go.Bv
namespace Go.Bv
open Go
def ints (l : List Int) : AV := .list .leaf (l.map i64)
/-- What a vector says of a node. -/
def vat (v : List Int) (i : Nat) : Int := max (v.getD i 0) 0
/-- What a vector says of a node that may be any number. -/
def vatI (v : List Int) (i : Int) : Int := if i < 0 then 0 else vat v i.toNat
def trim : List Int → List Int
  | [] => []
  | x :: r => match trim r with
    | [] => if x ≤ 0 then [] else [x]
    | y :: t => max x 0 :: y :: t
/-- The first i numbers at least 0. -/
def mx (w : List Int) (i : Nat) : List Int := (w.take i).map (max · 0) ++ w.drop i
/-- Two vectors, number by number. -/
def both (f : Int → Int → Int) (a b : List Int) : List Int := (List.range (max a.length b.length)).map fun i => f (vat a i) (vat b i)
def join (a b : List Int) : List Int := trim (both max a b)
def meet (a b : List Int) : List Int := trim (both min a b)
/-- Is a vector within another one? -/
def vwithin (a b : List Int) : Bool := (List.range a.length).all fun i => decide (vat a i ≤ vat b i)
/-- A vector with a number for a node. -/
def vset (v : List Int) (node : Nat) (n : Int) : List Int := (v ++ List.replicate (node + 1 - v.length) 0).set node n
/-- The first i numbers of two vectors, laid together; noughts behind. -/
def bs (f : Int → Int → Int) (a b : List Int) (i : Nat) : List Int := ((List.range i).map fun k => f (vat a k) (vat b k)) ++ List.replicate (max a.length b.length - i) 0
end Go.Bv
namespace Go.Bv
open Go Go.Proofs
def okInt (z : Int) : Prop := -9223372036854775808 ≤ z ∧ z < 9223372036854775808
@[ext] structure Dot where
  node : Int
  seq : Int
  at' : Int
  deriving DecidableEq
@[ext] structure Item where
  key : List UInt8
  field : List UInt8
  kind : Int
  elem : List UInt8
  n : Int
  dot : Dot
  deriving DecidableEq
@[ext] structure Eff where
  at' : Int
  key : List UInt8
  field : List UInt8
  kind : Int
  elem : List UInt8
  n : Int
  drops : List Dot
  deriving DecidableEq
@[ext] structure Txn where
  node : Int
  seq : Int
  deps : List Int
  effs : List Eff
  deriving DecidableEq
@[ext] structure Store where
  heard : List Int
  items : List Item
  deriving DecidableEq
@[ext] structure Past where
  floor : List Int
  list : List Txn
  deriving DecidableEq
@[ext] structure Queue where
  most : Int
  list : List Txn
  deriving DecidableEq
@[ext] structure Packet where
  src : Int
  dst : Int
  bytes : List UInt8
  deriving DecidableEq
@[ext] structure Net where
  way : List Packet
  deriving DecidableEq
structure NetOp where
  do' : Int
  src : Int
  dst : Int
  i : Int
  b : List UInt8
structure JOp where
  do' : Int
  keep : Int
  b : List UInt8
structure QOp where
  hears : Bool
  n : Int
  t : Txn
def dotC (x : Dot) : List AV := [i64 x.node, i64 x.seq, i64 x.at']
def dotA (x : Dot) : AV := .agg (dotC x)
def itemC (x : Item) : List AV := [.str x.key, .str x.field, i64 x.kind, .str x.elem, i64 x.n, i64 x.dot.node, i64 x.dot.seq, i64 x.dot.at']
def itemA (x : Item) : AV := .agg (itemC x)
def dotsA (l : List Dot) : AV := .list (.agg 3) (l.map dotA)
def itemsA (l : List Item) : AV := .list (.agg 8) (l.map itemA)
def effC (x : Eff) : List AV := [i64 x.at', .str x.key, .str x.field, i64 x.kind, .str x.elem, i64 x.n, dotsA x.drops]
def effA (x : Eff) : AV := .agg (effC x)
def effsA (l : List Eff) : AV := .list (.agg 7) (l.map effA)
def okDot (x : Dot) : Prop := okInt x.node ∧ okInt x.seq ∧ okInt x.at'
def okItem (x : Item) : Prop := x.key.length ≤ reachBytes ∧ x.field.length ≤ reachBytes ∧ okInt x.kind ∧ x.elem.length ≤ reachBytes ∧ okInt x.n ∧ okDot x.dot
def okEff (x : Eff) : Prop := okInt x.at' ∧ x.key.length ≤ reachBytes ∧ x.field.length ≤ reachBytes ∧ okInt x.kind ∧ x.elem.length ≤ reachBytes ∧ okInt x.n ∧ (x.drops.length ≤ reachBytes ∧ ∀ y ∈ x.drops, okDot y)
theorem drop_more {xs l : List AV} {o n : Nat} (h : (xs.drop o).take n = l) (hn : l.length = n) : xs.drop o = l ++ xs.drop (o + n) := by
  conv => lhs; rw [← List.take_append_drop n (xs.drop o), h, List.drop_drop]
theorem drop_all' {xs : List AV} {n : Nat} (h : xs.length = n) : xs.drop n = [] := List.drop_eq_nil_of_le (by omega)
end Go.Bv
namespace Go.Bv
set_option linter.unusedSimpArgs false
set_option linter.unusedVariables false
set_option maxHeartbeats 4000000
open Go Go.Proofs
end Go.Bv
namespace Go.Bv
set_option linter.unusedSimpArgs false
set_option linter.unusedVariables false
set_option maxHeartbeats 4000000
open Go Go.Proofs
end Go.Bv
namespace Go.Bv
set_option linter.unusedSimpArgs false
set_option linter.unusedVariables false
set_option maxHeartbeats 4000000
open Go Go.Proofs
def ready (v : List Int) (t : Txn) : Bool := decide (1 ≤ t.seq) && (decide (t.seq - 1 = vatI v t.node) && vwithin t.deps v)
def next (v : List Int) (t : Txn) : List Int := if 0 ≤ t.node ∧ t.node < 8 ∧ 0 ≤ t.seq ∧ t.seq ≤ 1073741824 then trim (vset v t.node.toNat t.seq) else trim v
def ixI {α : Type} (p : α → Bool) (l : List α) : Int := match l.findIdx? p with
  | some i => i
  | none => -1
theorem find_step {α : Type} {p : α → Bool} {l : List α} {i : Nat} (h : i < l.length) (ht : ∀ x ∈ l.take i, p x = false) : (p l[i] = true → ixI p l = i) ∧ (p l[i] = false → ∀ x ∈ l.take (i + 1), p x = false) := by
  refine ⟨fun hp => ?_, fun hp x hx => ?_⟩
  · have : l.findIdx? p = some i := by
      rw [List.findIdx?_eq_some_iff_getElem]
      refine ⟨h, hp, fun j hj => ?_⟩
      have := ht l[j] (List.mem_take_iff_getElem.2 ⟨j, by omega, rfl⟩)
      simp [this]
    unfold ixI; rw [this]
  · rw [List.take_succ_eq_append_getElem h] at hx
    rcases List.mem_append.1 hx with hx | hx
    · exact ht x hx
    · rw [List.mem_singleton.1 hx]; exact hp
theorem find_none {α : Type} {p : α → Bool} {l : List α} (h : ∀ x ∈ l, p x = false) : ixI p l = -1 := by
  have : l.findIdx? p = none := by rw [List.findIdx?_eq_none_iff]; exact h
  unfold ixI; rw [this]
end Go.Bv
namespace Go.Bv
set_option linter.unusedSimpArgs false
set_option linter.unusedVariables false
set_option maxHeartbeats 4000000
open Go Go.Proofs
end Go.Bv
namespace Go.Bv
set_option linter.unusedSimpArgs false
set_option linter.unusedVariables false
set_option maxHeartbeats 4000000
open Go Go.Proofs
theorem ixI_any {α : Type} (p : α → Bool) (l : List α) : l.any p = decide (0 ≤ ixI p l) := by
  unfold ixI
  cases h : l.findIdx? p with
  | none =>
    rw [List.findIdx?_eq_none_iff] at h
    rw [List.any_eq_false.2 (fun x hx => by simp [h x hx])]
    rfl
  | some i =>
    rw [List.findIdx?_eq_some_iff_getElem] at h
    obtain ⟨h1, h2, _⟩ := h
    rw [List.any_eq_true.2 ⟨_, List.getElem_mem h1, h2⟩]
    simp
def smEff (e : Eff) : Prop := e.key.length ≤ 2 ^ 40 ∧ e.field.length ≤ 2 ^ 40 ∧ e.elem.length ≤ 2 ^ 40 ∧ e.drops.length ≤ 2 ^ 40
end Go.Bv
namespace Go.Bv
open Go Go.Proofs
/-- May a transaction's number stand in a vector? -/
def okN (t : Txn) : Prop := 0 ≤ t.node ∧ t.node < 8 ∧ 0 ≤ t.seq ∧ t.seq ≤ 1073741824
instance (t : Txn) : Decidable (okN t) := by unfold okN; infer_instance
end Go.Bv
namespace Go.Bv
set_option linter.unusedSimpArgs false
set_option linter.unusedVariables false
set_option maxHeartbeats 4000000
open Go Go.Proofs
/-- What is left of a list of which some are gone. -/
def rem : List Txn → List Bool → List Txn
  | t :: l, g :: gs => if g then rem l gs else t :: rem l gs
  | _, _ => []
end Go.Bv
namespace Go.Bv
open Go Go.Proofs
def okc (c : UInt8) : Bool := decide (c.toNat = 47) || decide (48 ≤ c.toNat ∧ c.toNat ≤ 57) || decide (97 ≤ c.toNat ∧ c.toNat ≤ 122)
def pref (s : List UInt8) : Bool := decide (s.length ≤ 16) && s.all okc
def keyB (s : List UInt8) : Bool := decide (s ≠ []) && pref s
def dotOk (d : Dot) : Bool := decide (0 ≤ d.node ∧ d.node < 8 ∧ 1 ≤ d.seq ∧ d.seq ≤ 1073741824 ∧ 0 ≤ d.at' ∧ d.at' < 8)
def kindOk (x : Item) : Bool := decide ((x.kind = 1 ∨ x.kind = 2) ∧ x.n = 0 ∨ x.kind = 3 ∧ x.elem = [])
def itemOk (x : Item) : Bool := keyB x.key && (pref x.field && (decide (x.elem.length ≤ 32) && (kindOk x && dotOk x.dot)))
def dlt (a b : Dot) : Bool := decide (a.node < b.node ∨ a.node = b.node ∧ (a.seq < b.seq ∨ a.seq = b.seq ∧ a.at' < b.at'))
/-- Neighbours. -/
def adj {α : Type} (r : α → α → Bool) : List α → Bool
  | [] => true
  | [_] => true
  | x :: y :: t => r x y && adj r (y :: t)
def made (node seq : Int) (e : Eff) : Item := ⟨e.key, e.field, e.kind, e.elem, e.n, ⟨node, seq, e.at'⟩⟩
def dropsOk (l : List Dot) : Bool := decide (l.length ≤ 64) && (l.all dotOk && adj dlt l)
def effOk (node seq : Int) (e : Eff) : Bool := dropsOk e.drops && (if e.kind = 0 then decide (e.drops ≠ [] ∧ e.elem = []) && itemOk (made node seq { e with kind := 1 }) else itemOk (made node seq e))
def ownOk (node seq : Int) (e : Eff) : Bool := e.drops.all fun d => decide (¬ (d.node = node ∧ d.seq = seq ∧ e.at' ≤ d.at'))
def effsOk (node seq : Int) (l : List Eff) : Bool := l.all (fun e => effOk node seq e && ownOk node seq e) && adj (fun a b => decide (a.at' < b.at')) l
theorem adj_iff {α : Type} (r : α → α → Bool) : ∀ (l : List α), adj r l = true ↔ ∀ (i : Nat) (h : i + 1 < l.length), r l[i] l[i + 1] = true
  | [] => by simp [adj]
  | [_] => by simp [adj]
  | x :: y :: t => by
    rw [adj, Bool.and_eq_true, adj_iff r (y :: t)]
    refine ⟨fun ⟨h1, h2⟩ i hi => ?_, fun h => ⟨h 0 (by simp), fun i hi => h (i + 1) (by simpa using hi)⟩⟩
    cases i with
    | zero => exact h1
    | succ i => exact h2 i (by simpa using hi)
/-- One step of a look at all. -/
theorem all_step {α : Type} {p : α → Bool} {l : List α} {i : Nat} (h : i < l.length) (ht : ∀ x ∈ l.take i, p x = true) : (p l[i] = false → l.all p = false) ∧ (p l[i] = true → ∀ x ∈ l.take (i + 1), p x = true) := by
  refine ⟨fun hp => ?_, fun hp x hx => ?_⟩
  · rw [List.all_eq_false]; exact ⟨l[i], List.getElem_mem h, by simp [hp]⟩
  · rw [List.take_succ_eq_append_getElem h] at hx
    rcases List.mem_append.1 hx with hx | hx
    · exact ht x hx
    · rw [List.mem_singleton.1 hx]; exact hp
theorem all_end {α : Type} {p : α → Bool} {l : List α} (h : ∀ x ∈ l.take l.length, p x = true) : l.all p = true := by
  rw [List.take_length] at h
  exact List.all_eq_true.2 h
end Go.Bv
namespace Go.Bv
set_option linter.unusedSimpArgs false
set_option linter.unusedVariables false
set_option maxHeartbeats 4000000
open Go Go.Proofs
theorem take_eq_next {α : Type} {a b : List α} {i : Nat} (ht : a.take i = b.take i) (hia : i < a.length) (hib : i < b.length) (h : a[i] = b[i]) : a.take (i + 1) = b.take (i + 1) := by
  rw [List.take_succ_eq_append_getElem hia, List.take_succ_eq_append_getElem hib, ht, h]
theorem take_eq_end {α : Type} {a b : List α} (hl : a.length = b.length) (ht : a.take a.length = b.take a.length) : a = b := by
  rwa [List.take_length, hl, List.take_length] at ht
theorem dot_dec (a b : Dot) : decide (a = b) = (decide (a.node = b.node) && (decide (a.seq = b.seq) && decide (a.at' = b.at'))) := by
  rw [Bool.eq_iff_iff]; simp [Dot.ext_iff]
def shortE (e : Eff) : Bool := decide (e.key.length ≤ 300 ∧ e.field.length ≤ 300 ∧ e.elem.length ≤ 300 ∧ e.drops.length ≤ 70)
def shortEs (l : List Eff) : Bool := decide (l.length ≤ 20) && l.all shortE
theorem short10_walk (l : List Eff) (hl : l.length ≤ 2 ^ 47) (hx : ∀ e ∈ l, okEff e) : ACalls Try.prog Nm.ref10_Short [effsA l] [] (.bool (shortEs l)) [] := by
  refine ACalls_of tab (dr_snd tab mixed) Nm.ref10_Short_h rfl (by kernel_rfl) (Nat.le_of_ble_eq_true rfl) rfl ?_
  unfold shortEs
  by_cases h : l.length ≤ 20
  · rw [decide_eq_true h, Bool.true_and]
    refine ND.no (by (simp only [List.length_map, List.length_append, List.length_replicate, List.length_cons, List.length_nil, List.length_take, List.length_drop]; omega)) ?_
    refine NLoop.mk [] [0, 3] (fun m vs H => ∃ i, i ≤ l.length ∧ m = l.length - i ∧ (∀ x ∈ l.take i, shortE x = true) ∧ H = [] ∧ vs = [effsA l, i64 i]) rfl ?_ ?_
    · exact Canon.mk [] rfl ⟨l.length, 0, Nat.zero_le _, rfl, by simp, rfl, rfl⟩
    · rintro m vs H ⟨i, hi, rfl, ht, rfl, rfl⟩
      by_cases hil : i < l.length
      · obtain ⟨f1, f2⟩ := all_step hil ht
        obtain ⟨_, x1, x2, _, x3, _, x4, _⟩ := hx _ (List.getElem_mem hil)
        have x1 := reach_lt x1
        have x2 := reach_lt x2
        have x3 := reach_lt x3
        have x4 := reach_lt x4
        cases hp : shortE l[i] with
        | true =>
          have hp' := hp
          unfold shortE at hp'
          simp only [decide_eq_true_eq] at hp'
          refine ND.yes (by (simp only [List.length_map, List.length_append, List.length_replicate, List.length_cons, List.length_nil, List.length_take, List.length_drop]; omega)) ?_
          refine NP.mk (by omega) ?_
          refine NG.mapN (by omega) ?_
          refine ND.no (by omega) ?_
          refine NP.mk (by omega) ?_
          refine NG.mapN (by omega) ?_
          refine ND.no (by omega) ?_
          refine NP.mk (by omega) ?_
          refine NG.mapN (by omega) ?_
          refine ND.no (by omega) ?_
          refine NP.mk (by omega) ?_
          refine NG.mapN (by omega) ?_
          refine ND.no (by (simp only [List.length_map, List.length_append, List.length_replicate, List.length_cons, List.length_nil, List.length_take, List.length_drop]; omega)) ?_
          refine NW.i64 (by omega) (by omega) ?_
          exact Canon.mk [] rfl ⟨l.length - (i + 1), by omega, i + 1, by omega, rfl, f2 hp, rfl, rfl⟩
        | false =>
          rw [f1 hp]
          have hp' := hp
          unfold shortE at hp'
          simp only [decide_eq_false_iff_not] at hp'
          refine ND.yes (by (simp only [List.length_map, List.length_append, List.length_replicate, List.length_cons, List.length_nil, List.length_take, List.length_drop]; omega)) ?_
          refine NP.mk (by omega) ?_
          refine NG.mapN (by omega) ?_
          refine NB.dec (fun hk2 => ?_) (fun hk2 => ?_)
          · exact NRet.mk [] rfl ⟨.refl _, rfl⟩
          refine NP.mk (by omega) ?_
          refine NG.mapN (by omega) ?_
          refine NB.dec (fun hk3 => ?_) (fun hk3 => ?_)
          · exact NRet.mk [] rfl ⟨.refl _, rfl⟩
          refine NP.mk (by omega) ?_
          refine NG.mapN (by omega) ?_
          refine NB.dec (fun hk4 => ?_) (fun hk4 => ?_)
          · exact NRet.mk [] rfl ⟨.refl _, rfl⟩
          refine NP.mk (by omega) ?_
          refine NG.mapN (by omega) ?_
          refine ND.yes (by (simp only [List.length_map, List.length_append, List.length_replicate, List.length_cons, List.length_nil, List.length_take, List.length_drop]; omega)) ?_
          exact NRet.mk [] rfl ⟨.refl _, rfl⟩
      · have : i = l.length := by omega
        subst this
        rw [all_end ht]
        refine ND.no (by (simp only [List.length_map, List.length_append, List.length_replicate, List.length_cons, List.length_nil, List.length_take, List.length_drop]; omega)) ?_
        exact NRet.mk [] rfl ⟨.refl _, rfl⟩
  · rw [decide_eq_false h, Bool.false_and]
    refine ND.yes (by (simp only [List.length_map, List.length_append, List.length_replicate, List.length_cons, List.length_nil, List.length_take, List.length_drop]; omega)) ?_
    exact NRet.mk [] rfl ⟨.refl _, rfl⟩
end Go.Bv
namespace Go.Bv
set_option linter.unusedSimpArgs false
set_option linter.unusedVariables false
set_option maxHeartbeats 4000000
open Go Go.Proofs
theorem prefix_walk (s : List UInt8) (hs : s.length ≤ 2 ^ 47) : ACalls Try.prog Nm.zone_prefix [.str s] [] (.bool (pref s)) [] := by
  refine ACalls_of tab (dr_snd tab mixed) Nm.zone_prefix_h rfl (by kernel_rfl) (Nat.le_of_ble_eq_true rfl) rfl ?_
  rw [pref]
  by_cases h : s.length ≤ 16
  · rw [decide_eq_true h, Bool.true_and]
    refine ND.no (by omega) ?_
    refine NLoop.mk [] [0, 8, 9, 10] (fun m vs H => ∃ i, i ≤ s.length ∧ m = s.length - i ∧ (∀ x ∈ s.take i, okc x = true) ∧ H = [] ∧ vs = [.str s, .str s, i64 s.length, i64 i]) rfl ?_ ?_
    · exact Canon.mk [] rfl ⟨s.length, 0, Nat.zero_le _, rfl, by simp, rfl, rfl⟩
    · rintro m vs H ⟨i, hi, rfl, ht, rfl, rfl⟩
      by_cases hil : i < s.length
      · obtain ⟨f1, f2⟩ := all_step hil ht
        have fin : okc s[i] = true → ∃ m', m' < s.length - i ∧ ∃ i', i' ≤ s.length ∧ m' = s.length - i' ∧ (∀ x ∈ s.take i', okc x = true) ∧ ([] : List Blk) = [] ∧ [AV.str s, .str s, i64 s.length, i64 ((i + 1 : Nat) : Int)] = [.str s, .str s, i64 s.length, i64 i'] := fun h =>
          ⟨s.length - (i + 1), by omega, i + 1, by omega, rfl, f2 h, rfl, rfl⟩
        refine ND.yes (by omega) ?_
        refine NP.mk (by omega) ?_
        refine NB.dec (fun hk2 => ?_) (fun hk2 => ?_)
        · refine NB.dec (fun hk3 => ?_) (fun hk3 => ?_)
          · refine NB.dec (fun hk4 => ?_) (fun hk4 => ?_)
            · refine NW.i64 (by omega) (by omega) ?_
              exact (Canon.mk [] rfl (fin (by grind [okc])))
            refine NRet.boolE (b := false) ?_ (NRet.mk [] rfl ⟨.refl _, rfl⟩)
            grind [okc, pref]
          refine NB.dec (fun hk5 => ?_) (fun hk5 => ?_)
          · refine ND.no (by omega) ?_
            refine NRet.boolE (b := false) ?_ (NRet.mk [] rfl ⟨.refl _, rfl⟩)
            grind [okc, pref]
          refine NW.i64 (by omega) (by omega) ?_
          exact (Canon.mk [] rfl (fin (by grind [okc])))
        refine NB.dec (fun hk7 => ?_) (fun hk7 => ?_)
        · refine ND.no (by omega) ?_
          refine ND.yes (by omega) ?_
          refine ND.no (by omega) ?_
          refine NRet.boolE (b := false) ?_ (NRet.mk [] rfl ⟨.refl _, rfl⟩)
          grind [okc, pref]
        refine NW.i64 (by omega) (by omega) ?_
        exact (Canon.mk [] rfl (fin (by grind [okc])))
      · have : i = s.length := by omega
        subst this
        rw [all_end ht]
        refine ND.no (by omega) ?_
        exact NRet.mk [] rfl ⟨.refl _, rfl⟩
  · rw [decide_eq_false h, Bool.false_and]
    refine ND.yes (by omega) ?_
    exact NRet.mk [] rfl ⟨.refl _, rfl⟩
theorem key_walk (s : List UInt8) (hs : s.length ≤ 2 ^ 47) : ACalls Try.prog Nm.zone_Key [.str s] [] (.bool (keyB s)) [] := by
  refine ACalls_of tab (dr_snd tab mixed) Nm.zone_Key_h rfl (by kernel_rfl) (Nat.le_of_ble_eq_true rfl) rfl ?_
  rw [keyB]
  refine NB.dec (fun hk1 => ?_) (fun hk1 => ?_)
  · refine NRet.boolE (b := false) ?_ (NRet.mk [] rfl ⟨.refl _, rfl⟩)
    grind
  refine NCall.call (prefix_walk s hs) rfl rfl ?_
  refine NRet.boolE ?_ (NRet.mk [] rfl ⟨.refl _, rfl⟩)
  grind
def smItem (x : Item) : Prop := x.key.length ≤ 2 ^ 40 ∧ x.field.length ≤ 2 ^ 40 ∧ x.elem.length ≤ 2 ^ 40
theorem itemFormed_walk (x : Item) (hx : smItem x) : ACalls Try.prog Nm.item_Formed [itemA x] [] (.bool (itemOk x)) [] := by
  refine ACalls_of tab (dr_snd tab mixed) Nm.item_Formed_h rfl (by kernel_rfl) (Nat.le_of_ble_eq_true rfl) rfl ?_
  obtain ⟨h1, h2, h3⟩ := hx
  have k1 := key_walk x.key (by omega)
  have k2 := key_walk x.field (by omega)
  refine NCall.call (k1) rfl rfl ?_
  refine NB.mk (fun hk1 => ?_) (fun hk1 => ?_)
  · refine NB.dec (fun hk2 => ?_) (fun hk2 => ?_)
    · refine NB.dec (fun hk3 => ?_) (fun hk3 => ?_)
      · refine NRet.boolE (b := false) ?_ (NRet.mk [] rfl ⟨.refl _, rfl⟩)
        grind [itemOk, kindOk, dotOk, keyB, pref]
      refine NB.dec (fun hk4 => ?_) (fun hk4 => ?_)
      · refine NB.dec (fun hk5 => ?_) (fun hk5 => ?_)
        · refine NB.dec (fun hk6 => ?_) (fun hk6 => ?_)
          · refine NB.dec (fun hk7 => ?_) (fun hk7 => ?_)
            · refine NB.dec (fun hk8 => ?_) (fun hk8 => ?_)
              · refine NB.dec (fun hk9 => ?_) (fun hk9 => ?_)
                · refine NB.dec (fun hk10 => ?_) (fun hk10 => ?_)
                  · refine NB.dec (fun hk11 => ?_) (fun hk11 => ?_)
                    · refine NRet.boolE (b := true) ?_ (NRet.mk [] rfl ⟨.refl _, rfl⟩)
                      grind [itemOk, kindOk, dotOk, keyB, pref]
                    refine NRet.boolE (b := false) ?_ (NRet.mk [] rfl ⟨.refl _, rfl⟩)
                    grind [itemOk, kindOk, dotOk, keyB, pref]
                  refine NRet.boolE (b := false) ?_ (NRet.mk [] rfl ⟨.refl _, rfl⟩)
                  grind [itemOk, kindOk, dotOk, keyB, pref]
                refine NRet.boolE (b := false) ?_ (NRet.mk [] rfl ⟨.refl _, rfl⟩)
                grind [itemOk, kindOk, dotOk, keyB, pref]
              refine NRet.boolE (b := false) ?_ (NRet.mk [] rfl ⟨.refl _, rfl⟩)
              grind [itemOk, kindOk, dotOk, keyB, pref]
            refine NRet.boolE (b := false) ?_ (NRet.mk [] rfl ⟨.refl _, rfl⟩)
            grind [itemOk, kindOk, dotOk, keyB, pref]
          refine NRet.boolE (b := false) ?_ (NRet.mk [] rfl ⟨.refl _, rfl⟩)
          grind [itemOk, kindOk, dotOk, keyB, pref]
        refine NRet.boolE (b := false) ?_ (NRet.mk [] rfl ⟨.refl _, rfl⟩)
        grind [itemOk, kindOk, dotOk, keyB, pref]
      refine NB.dec (fun hk12 => ?_) (fun hk12 => ?_)
      · refine NB.dec (fun hk13 => ?_) (fun hk13 => ?_)
        · refine NB.dec (fun hk14 => ?_) (fun hk14 => ?_)
          · refine NB.dec (fun hk15 => ?_) (fun hk15 => ?_)
            · refine NB.dec (fun hk16 => ?_) (fun hk16 => ?_)
              · refine NB.dec (fun hk17 => ?_) (fun hk17 => ?_)
                · refine NB.dec (fun hk18 => ?_) (fun hk18 => ?_)
                  · refine NB.dec (fun hk19 => ?_) (fun hk19 => ?_)
                    · refine NRet.boolE (b := true) ?_ (NRet.mk [] rfl ⟨.refl _, rfl⟩)
                      grind [itemOk, kindOk, dotOk, keyB, pref]
                    refine NRet.boolE (b := false) ?_ (NRet.mk [] rfl ⟨.refl _, rfl⟩)
                    grind [itemOk, kindOk, dotOk, keyB, pref]
                  refine NRet.boolE (b := false) ?_ (NRet.mk [] rfl ⟨.refl _, rfl⟩)
                  grind [itemOk, kindOk, dotOk, keyB, pref]
                refine NRet.boolE (b := false) ?_ (NRet.mk [] rfl ⟨.refl _, rfl⟩)
                grind [itemOk, kindOk, dotOk, keyB, pref]
              refine NRet.boolE (b := false) ?_ (NRet.mk [] rfl ⟨.refl _, rfl⟩)
              grind [itemOk, kindOk, dotOk, keyB, pref]
            refine NRet.boolE (b := false) ?_ (NRet.mk [] rfl ⟨.refl _, rfl⟩)
            grind [itemOk, kindOk, dotOk, keyB, pref]
          refine NRet.boolE (b := false) ?_ (NRet.mk [] rfl ⟨.refl _, rfl⟩)
          grind [itemOk, kindOk, dotOk, keyB, pref]
        refine NRet.boolE (b := false) ?_ (NRet.mk [] rfl ⟨.refl _, rfl⟩)
        grind [itemOk, kindOk, dotOk, keyB, pref]
      refine NB.dec (fun hk20 => ?_) (fun hk20 => ?_)
      · refine NB.dec (fun hk21 => ?_) (fun hk21 => ?_)
        · refine NB.dec (fun hk22 => ?_) (fun hk22 => ?_)
          · refine NB.dec (fun hk23 => ?_) (fun hk23 => ?_)
            · refine NB.dec (fun hk24 => ?_) (fun hk24 => ?_)
              · refine NB.dec (fun hk25 => ?_) (fun hk25 => ?_)
                · refine NB.dec (fun hk26 => ?_) (fun hk26 => ?_)
                  · refine NB.dec (fun hk27 => ?_) (fun hk27 => ?_)
                    · refine NRet.boolE (b := true) ?_ (NRet.mk [] rfl ⟨.refl _, rfl⟩)
                      grind [itemOk, kindOk, dotOk, keyB, pref]
                    refine NRet.boolE (b := false) ?_ (NRet.mk [] rfl ⟨.refl _, rfl⟩)
                    grind [itemOk, kindOk, dotOk, keyB, pref]
                  refine NRet.boolE (b := false) ?_ (NRet.mk [] rfl ⟨.refl _, rfl⟩)
                  grind [itemOk, kindOk, dotOk, keyB, pref]
                refine NRet.boolE (b := false) ?_ (NRet.mk [] rfl ⟨.refl _, rfl⟩)
                grind [itemOk, kindOk, dotOk, keyB, pref]
              refine NRet.boolE (b := false) ?_ (NRet.mk [] rfl ⟨.refl _, rfl⟩)
              grind [itemOk, kindOk, dotOk, keyB, pref]
            refine NRet.boolE (b := false) ?_ (NRet.mk [] rfl ⟨.refl _, rfl⟩)
            grind [itemOk, kindOk, dotOk, keyB, pref]
          refine NRet.boolE (b := false) ?_ (NRet.mk [] rfl ⟨.refl _, rfl⟩)
          grind [itemOk, kindOk, dotOk, keyB, pref]
        refine NRet.boolE (b := false) ?_ (NRet.mk [] rfl ⟨.refl _, rfl⟩)
        grind [itemOk, kindOk, dotOk, keyB, pref]
      refine NRet.boolE (b := false) ?_ (NRet.mk [] rfl ⟨.refl _, rfl⟩)
      grind [itemOk, kindOk, dotOk, keyB, pref]
    refine NCall.call (k2) rfl rfl ?_
    refine NB.mk (fun hk28 => ?_) (fun hk28 => ?_)
    · refine NB.dec (fun hk29 => ?_) (fun hk29 => ?_)
      · refine NRet.boolE (b := false) ?_ (NRet.mk [] rfl ⟨.refl _, rfl⟩)
        grind [itemOk, kindOk, dotOk, keyB, pref]
      refine NB.dec (fun hk30 => ?_) (fun hk30 => ?_)
      · refine NB.dec (fun hk31 => ?_) (fun hk31 => ?_)
        · refine NB.dec (fun hk32 => ?_) (fun hk32 => ?_)
          · refine NB.dec (fun hk33 => ?_) (fun hk33 => ?_)
            · refine NB.dec (fun hk34 => ?_) (fun hk34 => ?_)
              · refine NB.dec (fun hk35 => ?_) (fun hk35 => ?_)
                · refine NB.dec (fun hk36 => ?_) (fun hk36 => ?_)
                  · refine NB.dec (fun hk37 => ?_) (fun hk37 => ?_)
                    · refine NRet.boolE (b := true) ?_ (NRet.mk [] rfl ⟨.refl _, rfl⟩)
                      grind [itemOk, kindOk, dotOk, keyB, pref]
                    refine NRet.boolE (b := false) ?_ (NRet.mk [] rfl ⟨.refl _, rfl⟩)
                    grind [itemOk, kindOk, dotOk, keyB, pref]
                  refine NRet.boolE (b := false) ?_ (NRet.mk [] rfl ⟨.refl _, rfl⟩)
                  grind [itemOk, kindOk, dotOk, keyB, pref]
                refine NRet.boolE (b := false) ?_ (NRet.mk [] rfl ⟨.refl _, rfl⟩)
                grind [itemOk, kindOk, dotOk, keyB, pref]
              refine NRet.boolE (b := false) ?_ (NRet.mk [] rfl ⟨.refl _, rfl⟩)
              grind [itemOk, kindOk, dotOk, keyB, pref]
            refine NRet.boolE (b := false) ?_ (NRet.mk [] rfl ⟨.refl _, rfl⟩)
            grind [itemOk, kindOk, dotOk, keyB, pref]
          refine NRet.boolE (b := false) ?_ (NRet.mk [] rfl ⟨.refl _, rfl⟩)
          grind [itemOk, kindOk, dotOk, keyB, pref]
        refine NRet.boolE (b := false) ?_ (NRet.mk [] rfl ⟨.refl _, rfl⟩)
        grind [itemOk, kindOk, dotOk, keyB, pref]
      refine NB.dec (fun hk38 => ?_) (fun hk38 => ?_)
      · refine NB.dec (fun hk39 => ?_) (fun hk39 => ?_)
        · refine NB.dec (fun hk40 => ?_) (fun hk40 => ?_)
          · refine NB.dec (fun hk41 => ?_) (fun hk41 => ?_)
            · refine NB.dec (fun hk42 => ?_) (fun hk42 => ?_)
              · refine NB.dec (fun hk43 => ?_) (fun hk43 => ?_)
                · refine NB.dec (fun hk44 => ?_) (fun hk44 => ?_)
                  · refine NB.dec (fun hk45 => ?_) (fun hk45 => ?_)
                    · refine NRet.boolE (b := true) ?_ (NRet.mk [] rfl ⟨.refl _, rfl⟩)
                      grind [itemOk, kindOk, dotOk, keyB, pref]
                    refine NRet.boolE (b := false) ?_ (NRet.mk [] rfl ⟨.refl _, rfl⟩)
                    grind [itemOk, kindOk, dotOk, keyB, pref]
                  refine NRet.boolE (b := false) ?_ (NRet.mk [] rfl ⟨.refl _, rfl⟩)
                  grind [itemOk, kindOk, dotOk, keyB, pref]
                refine NRet.boolE (b := false) ?_ (NRet.mk [] rfl ⟨.refl _, rfl⟩)
                grind [itemOk, kindOk, dotOk, keyB, pref]
              refine NRet.boolE (b := false) ?_ (NRet.mk [] rfl ⟨.refl _, rfl⟩)
              grind [itemOk, kindOk, dotOk, keyB, pref]
            refine NRet.boolE (b := false) ?_ (NRet.mk [] rfl ⟨.refl _, rfl⟩)
            grind [itemOk, kindOk, dotOk, keyB, pref]
          refine NRet.boolE (b := false) ?_ (NRet.mk [] rfl ⟨.refl _, rfl⟩)
          grind [itemOk, kindOk, dotOk, keyB, pref]
        refine NRet.boolE (b := false) ?_ (NRet.mk [] rfl ⟨.refl _, rfl⟩)
        grind [itemOk, kindOk, dotOk, keyB, pref]
      refine NB.dec (fun hk46 => ?_) (fun hk46 => ?_)
      · refine NB.dec (fun hk47 => ?_) (fun hk47 => ?_)
        · refine NB.dec (fun hk48 => ?_) (fun hk48 => ?_)
          · refine NB.dec (fun hk49 => ?_) (fun hk49 => ?_)
            · refine NB.dec (fun hk50 => ?_) (fun hk50 => ?_)
              · refine NB.dec (fun hk51 => ?_) (fun hk51 => ?_)
                · refine NB.dec (fun hk52 => ?_) (fun hk52 => ?_)
                  · refine NB.dec (fun hk53 => ?_) (fun hk53 => ?_)
                    · refine NRet.boolE (b := true) ?_ (NRet.mk [] rfl ⟨.refl _, rfl⟩)
                      grind [itemOk, kindOk, dotOk, keyB, pref]
                    refine NRet.boolE (b := false) ?_ (NRet.mk [] rfl ⟨.refl _, rfl⟩)
                    grind [itemOk, kindOk, dotOk, keyB, pref]
                  refine NRet.boolE (b := false) ?_ (NRet.mk [] rfl ⟨.refl _, rfl⟩)
                  grind [itemOk, kindOk, dotOk, keyB, pref]
                refine NRet.boolE (b := false) ?_ (NRet.mk [] rfl ⟨.refl _, rfl⟩)
                grind [itemOk, kindOk, dotOk, keyB, pref]
              refine NRet.boolE (b := false) ?_ (NRet.mk [] rfl ⟨.refl _, rfl⟩)
              grind [itemOk, kindOk, dotOk, keyB, pref]
            refine NRet.boolE (b := false) ?_ (NRet.mk [] rfl ⟨.refl _, rfl⟩)
            grind [itemOk, kindOk, dotOk, keyB, pref]
          refine NRet.boolE (b := false) ?_ (NRet.mk [] rfl ⟨.refl _, rfl⟩)
          grind [itemOk, kindOk, dotOk, keyB, pref]
        refine NRet.boolE (b := false) ?_ (NRet.mk [] rfl ⟨.refl _, rfl⟩)
        grind [itemOk, kindOk, dotOk, keyB, pref]
      refine NRet.boolE (b := false) ?_ (NRet.mk [] rfl ⟨.refl _, rfl⟩)
      grind [itemOk, kindOk, dotOk, keyB, pref]
    refine NRet.boolE (b := false) ?_ (NRet.mk [] rfl ⟨.refl _, rfl⟩)
    grind [itemOk, kindOk, dotOk, keyB, pref]
  refine NRet.boolE (b := false) ?_ (NRet.mk [] rfl ⟨.refl _, rfl⟩)
  grind [itemOk, kindOk, dotOk, keyB, pref]
theorem dot_walk' (d : Dot) : ACalls Try.prog Nm.eff_dot [dotA d] [] (.bool (dotOk d)) [] := by
  refine ACalls_of tab (dr_snd tab mixed) Nm.eff_dot_h rfl (by kernel_rfl) (Nat.le_of_ble_eq_true rfl) rfl ?_
  rw [dotOk]
  refine NB.dec (fun hk1 => ?_) (fun hk1 => ?_)
  · refine NB.dec (fun hk2 => ?_) (fun hk2 => ?_)
    · refine NB.dec (fun hk3 => ?_) (fun hk3 => ?_)
      · refine NB.dec (fun hk4 => ?_) (fun hk4 => ?_)
        · refine NB.dec (fun hk5 => ?_) (fun hk5 => ?_)
          · refine NB.dec (fun hk6 => ?_) (fun hk6 => ?_)
            · refine NRet.boolE (b := true) ?_ (NRet.mk [] rfl ⟨.refl _, rfl⟩)
              (simp only [decide_eq_true_eq, decide_eq_false_iff_not, eq_comm (a := true), eq_comm (a := false)]; omega)
            refine NRet.boolE (b := false) ?_ (NRet.mk [] rfl ⟨.refl _, rfl⟩)
            (simp only [decide_eq_true_eq, decide_eq_false_iff_not, eq_comm (a := true), eq_comm (a := false)]; omega)
          refine NRet.boolE (b := false) ?_ (NRet.mk [] rfl ⟨.refl _, rfl⟩)
          (simp only [decide_eq_true_eq, decide_eq_false_iff_not, eq_comm (a := true), eq_comm (a := false)]; omega)
        refine NRet.boolE (b := false) ?_ (NRet.mk [] rfl ⟨.refl _, rfl⟩)
        (simp only [decide_eq_true_eq, decide_eq_false_iff_not, eq_comm (a := true), eq_comm (a := false)]; omega)
      refine NRet.boolE (b := false) ?_ (NRet.mk [] rfl ⟨.refl _, rfl⟩)
      (simp only [decide_eq_true_eq, decide_eq_false_iff_not, eq_comm (a := true), eq_comm (a := false)]; omega)
    refine NRet.boolE (b := false) ?_ (NRet.mk [] rfl ⟨.refl _, rfl⟩)
    (simp only [decide_eq_true_eq, decide_eq_false_iff_not, eq_comm (a := true), eq_comm (a := false)]; omega)
  refine NRet.boolE (b := false) ?_ (NRet.mk [] rfl ⟨.refl _, rfl⟩)
  (simp only [decide_eq_true_eq, decide_eq_false_iff_not, eq_comm (a := true), eq_comm (a := false)]; omega)
theorem isNaN_walk (a : Int) : ACalls Try.prog Nm.cmp_isNaN_int [i64 a] [] (.bool false) [] := by
  refine ACalls_of tab (dr_snd tab mixed) Nm.cmp_isNaN_int_h rfl (by kernel_rfl) (Nat.le_of_ble_eq_true rfl) rfl ?_
  refine ND.yes (by omega) ?_
  exact NRet.mk [] rfl ⟨.refl _, rfl⟩
def cmpI (a b : Int) : Int := if a < b then -1 else if b < a then 1 else 0
theorem compare_walk (a b : Int) : ACalls Try.prog Nm.cmp_Compare_int [i64 a, i64 b] [] (i64 (cmpI a b)) [] := by
  refine ACalls_of tab (dr_snd tab mixed) Nm.cmp_Compare_int_h rfl (by kernel_rfl) (Nat.le_of_ble_eq_true rfl) rfl ?_
  have h1 := isNaN_walk a
  have h2 := isNaN_walk b
  rw [cmpI]
  refine NCall.call (h1) rfl rfl ?_
  refine NCall.call (h2) rfl rfl ?_
  refine NB.dec (fun hk1 => ?_) (fun hk1 => ?_)
  · refine NRet.intE ?_ (NRet.mk [] rfl ⟨.refl _, rfl⟩)
    omega
  refine NB.dec (fun hk2 => ?_) (fun hk2 => ?_)
  · refine NRet.intE ?_ (NRet.mk [] rfl ⟨.refl _, rfl⟩)
    omega
  refine NRet.intE ?_ (NRet.mk [] rfl ⟨.refl _, rfl⟩)
  omega
theorem made_walk (node seq : Int) (e : Eff) : ACalls Try.prog Nm.eff_made [i64 node, i64 seq, effA e] [] (itemA (made node seq e)) [] := by
  refine ACalls_of tab (dr_snd tab mixed) Nm.eff_made_h rfl (by kernel_rfl) (Nat.le_of_ble_eq_true rfl) rfl ?_
  exact NRet.mk [] rfl ⟨.refl _, rfl⟩
def orI : List Int → Int
  | [] => 0
  | x :: r => if x = 0 then orI r else x
theorem orI_cons (x : Int) (r : List Int) : orI (x :: r) = if x = 0 then orI r else x := rfl
theorem or_walk (l : List Int) (hl : l.length ≤ 2 ^ 40) : ACalls Try.prog Nm.cmp_Or_int [ints l] [] (i64 (orI l)) [] := by
  refine ACalls_of tab (dr_snd tab mixed) Nm.cmp_Or_int_h rfl (by kernel_rfl) (Nat.le_of_ble_eq_true rfl) rfl ?_
  refine NLoop.mk [] [3, 6, 7, 8] (fun m vs H => ∃ i, i ≤ l.length ∧ m = l.length - i ∧ orI l = orI (l.drop i) ∧ H = [] ∧ vs = [i64 0, ints l, i64 l.length, i64 i]) rfl ?_ ?_
  · exact Canon.mk [] rfl ⟨l.length, 0, Nat.zero_le _, rfl, rfl, rfl, by simp [ints, i64]⟩
  · rintro m vs H ⟨i, hi, rfl, ht, rfl, rfl⟩
    rw [ht]
    by_cases hil : i < l.length
    · rw [List.drop_eq_getElem_cons hil]
      rw [orI_cons]
      by_cases h0 : l[i] = 0
      · rw [if_pos h0]
        refine ND.yes (by omega) ?_
        refine NP.mk (by omega) ?_
        refine NG.mapN (by omega) ?_
        refine ND.yes (by omega) ?_
        refine NW.i64 (by omega) (by omega) ?_
        exact Canon.mk [] rfl ⟨l.length - (i + 1), by omega, i + 1, by omega, rfl, rfl, rfl, rfl⟩
      · rw [if_neg h0]
        refine ND.yes (by omega) ?_
        refine NP.mk (by omega) ?_
        refine NG.mapN (by omega) ?_
        refine ND.no (by omega) ?_
        exact NRet.mk [] rfl ⟨.refl _, rfl⟩
    · rw [List.drop_eq_nil_of_le (by omega)]
      refine ND.no (by omega) ?_
      exact NRet.mk [] rfl ⟨.refl _, rfl⟩
theorem order_walk (a b : Dot) : ACalls Try.prog Nm.eff_order [dotA a, dotA b] [] (i64 (orI [cmpI a.node b.node, cmpI a.seq b.seq, cmpI a.at' b.at'])) [] := by
  refine ACalls_of tab (dr_snd tab mixed) Nm.eff_order_h rfl (by kernel_rfl) (Nat.le_of_ble_eq_true rfl) rfl ?_
  refine NP.mk (by kernel_rfl) ?_
  apply NDr.rd [0]
  · intro fH TH
    exact ⟨rfl, rfl⟩
  apply NDr.rd [0]
  · intro fH TH
    exact ⟨rfl, rfl⟩
  apply NDr.rd [1]
  · intro fH TH
    exact ⟨rfl, rfl⟩
  apply NDr.rd [1]
  · intro fH TH
    exact ⟨rfl, rfl⟩
  apply NDr.pure
  · refine NCall.call (compare_walk a.node b.node) rfl rfl ?_
    exact ⟨rfl, rfl⟩
  apply NDr.rd [0]
  · intro fH TH
    exact ⟨rfl, rfl⟩
  apply NDr.rd [0]
  · intro fH TH
    exact ⟨rfl, rfl⟩
  apply NDr.rd [1]
  · intro fH TH
    exact ⟨rfl, rfl⟩
  apply NDr.rd [1]
  · intro fH TH
    exact ⟨rfl, rfl⟩
  apply NDr.pure
  · refine NCall.call (compare_walk a.seq b.seq) rfl rfl ?_
    exact ⟨rfl, rfl⟩
  apply NDr.rd [0]
  · intro fH TH
    exact ⟨rfl, rfl⟩
  apply NDr.rd [0]
  · intro fH TH
    exact ⟨rfl, rfl⟩
  apply NDr.rd [1]
  · intro fH TH
    exact ⟨rfl, rfl⟩
  apply NDr.rd [1]
  · intro fH TH
    exact ⟨rfl, rfl⟩
  apply NDr.pure
  · refine NCall.call (compare_walk a.at' b.at') rfl rfl ?_
    exact ⟨rfl, rfl⟩
  apply NDr.pure
  · exact ⟨rfl, rfl⟩
  apply NDr.pure
  · refine NCall.call (or_walk [cmpI a.node b.node, cmpI a.seq b.seq, cmpI a.at' b.at'] (by simp)) rfl rfl ?_
    exact ⟨rfl, rfl⟩
  apply NDr.pure
  · exact ⟨rfl, rfl⟩
  refine NP.mk (by kernel_rfl) ?_
  exact NRet.mk [] rfl ⟨.refl _, rfl⟩
theorem order_dlt (a b : Dot) : orI [cmpI a.node b.node, cmpI a.seq b.seq, cmpI a.at' b.at'] < 0 ↔ dlt a b = true := by
  unfold dlt
  rw [decide_eq_true_eq]
  simp only [orI, cmpI]
  grind
/-- One step of a look at all and at all neighbours. -/
def Seen {α : Type} (p : α → Bool) (r : α → α → Bool) (l : List α) (i : Nat) : Prop := (∀ x ∈ l.take i, p x = true) ∧ ∀ (j : Nat) (h : j + 1 < l.length), j + 1 < i → r l[j] l[j + 1] = true
theorem seen0 {α : Type} (p : α → Bool) (r : α → α → Bool) (l : List α) : Seen p r l 0 := ⟨by simp, fun j _ h => by omega⟩
theorem seen_p {α : Type} {p : α → Bool} {r : α → α → Bool} {l : List α} {i : Nat} (h : i < l.length) (hp : p l[i] = false) : (l.all p && adj r l) = false := by
  rw [(List.all_eq_false).2 ⟨l[i], List.getElem_mem h, by simp [hp]⟩, Bool.false_and]
theorem seen_r {α : Type} {p : α → Bool} {r : α → α → Bool} {l : List α} {k : Nat} (h : k + 1 < l.length) (hr : r l[k] l[k + 1] = false) : (l.all p && adj r l) = false := by
  have : adj r l = false := by
    cases hq : adj r l with
    | false => rfl
    | true => rw [(adj_iff r l).1 hq k h] at hr; cases hr
  rw [this, Bool.and_false]
theorem seen_zero {α : Type} {p : α → Bool} {r : α → α → Bool} {l : List α} (h : 0 < l.length) (hp : p l[0] = true) : Seen p r l 1 := by
  refine ⟨fun x hx => ?_, fun j _ h => by omega⟩
  rw [List.take_succ_eq_append_getElem h] at hx
  simp at hx
  rw [hx]; exact hp
theorem seen_succ {α : Type} {p : α → Bool} {r : α → α → Bool} {l : List α} {k : Nat} (h : k + 1 < l.length) (hs : Seen p r l (k + 1)) (hp : p l[k + 1] = true) (hr : r l[k] l[k + 1] = true) : Seen p r l (k + 1 + 1) := by
  obtain ⟨h1, h2⟩ := hs
  refine ⟨(all_step h h1).2 hp, fun j hj hji => ?_⟩
  rcases Nat.lt_or_ge j k with h' | h'
  · exact h2 j hj (by omega)
  · have : j = k := by omega
    subst this; exact hr
theorem seen_end {α : Type} {p : α → Bool} {r : α → α → Bool} {l : List α} (hs : Seen p r l l.length) : (l.all p && adj r l) = true := by
  rw [all_end hs.1, Bool.true_and, adj_iff]
  exact fun i h => hs.2 i h h
theorem smMade {node seq : Int} {e : Eff} (h : smEff e) : smItem (made node seq e) := ⟨h.1, h.2.1, h.2.2.1⟩
theorem effFormed_walk (node seq : Int) (e : Eff) (he : smEff e) : ACalls Try.prog Nm.eff_Formed [i64 node, i64 seq, effA e] [] (.bool (effOk node seq e)) [] := by
  refine ACalls_of tab (dr_snd tab mixed) Nm.eff_Formed_h rfl (by kernel_rfl) (Nat.le_of_ble_eq_true rfl) rfl ?_
  rw [effOk, dropsOk]
  by_cases h : e.drops.length ≤ 64
  · rw [decide_eq_true h, Bool.true_and]
    refine ND.no (by (simp only [List.length_map, List.length_append, List.length_replicate, List.length_cons, List.length_nil, List.length_take, List.length_drop]; omega)) ?_
    refine NLoop.mk [] [0, 1, 2, 5, 15, 16, 17] (fun m vs H => ∃ i, i ≤ e.drops.length ∧ m = e.drops.length - i ∧ Seen dotOk dlt e.drops i ∧ H = [.row .box (.agg 7) [effA e]] ∧ vs = [i64 node, i64 seq, effA e, .ptr 0 0 0, dotsA e.drops, i64 e.drops.length, i64 i]) rfl ?_ ?_
    · exact Canon.mk [0] rfl ⟨e.drops.length, 0, Nat.zero_le _, rfl, seen0 _ _ _, rfl, by simp [dotsA, i64]; rfl⟩
    · rintro m vs H ⟨i, hi, rfl, hs, rfl, rfl⟩
      by_cases hil : i < e.drops.length
      · have h1 := dot_walk' e.drops[i]
        cases hp : dotOk e.drops[i] with
        | false =>
          rw [hp] at h1
          rw [seen_p hil hp, Bool.false_and]
          refine ND.yes (by omega) ?_
          refine NP.mk (by omega) ?_
          refine NG.mapN (by omega) ?_
          refine NP.mk (by kernel_rfl) ?_
          apply NDr.rd [1]
          · intro fH TH
            exact ⟨rfl, rfl⟩
          apply NDr.pure
          · refine NCall.call (h1) rfl rfl ?_
            exact ⟨rfl, rfl⟩
          apply NDr.pure
          · exact ⟨rfl, rfl⟩
          apply NDr.pure
          · exact ⟨rfl, rfl⟩
          apply NDr.pure
          · exact ⟨rfl, rfl⟩
          refine NP.mk (by kernel_rfl) ?_
          exact NRet.mk [] rfl ⟨.refl _, rfl⟩
        | true =>
          rw [hp] at h1
          cases i with
          | zero =>
            refine ND.yes (by omega) ?_
            refine NP.mk (by omega) ?_
            refine NG.mapN (by omega) ?_
            refine NP.mk (by kernel_rfl) ?_
            apply NDr.rd [1]
            · intro fH TH
              exact ⟨rfl, rfl⟩
            apply NDr.pure
            · refine NCall.call (h1) rfl rfl ?_
              exact ⟨rfl, rfl⟩
            apply NDr.pure
            · exact ⟨rfl, rfl⟩
            apply NDr.pure
            · exact ⟨rfl, rfl⟩
            apply NDr.pure
            · exact ⟨rfl, rfl⟩
            apply NDr.pure
            · refine ND.no (by omega) ?_
              exact ⟨rfl, rfl⟩
            apply NDr.pure
            · exact ⟨rfl, rfl⟩
            apply NDr.pure
            · exact ⟨rfl, rfl⟩
            apply NDr.pure
            · exact ⟨rfl, rfl⟩
            refine NP.mk (by kernel_rfl) ?_
            refine NW.i64 (by omega) (by omega) ?_
            exact Canon.mk [0] rfl ⟨e.drops.length - 1, by omega, 1, by omega, rfl, seen_zero hil hp, rfl, rfl⟩
          | succ k =>
            have h2 := order_walk e.drops[k] e.drops[k + 1]
            have ho := order_dlt e.drops[k] e.drops[k + 1]
            have ek : Int.toNat (((k + 1 : Nat) : Int) - 1) = k := by omega
            generalize orI [cmpI e.drops[k].node e.drops[k + 1].node, cmpI e.drops[k].seq e.drops[k + 1].seq, cmpI e.drops[k].at' e.drops[k + 1].at'] = q at *
            cases hr : dlt e.drops[k] e.drops[k + 1] with
            | false =>
              rw [hr] at ho
              have hq : 0 ≤ q := Int.not_lt.1 fun h => by simpa using ho.1 h
              rw [seen_r hil hr, Bool.false_and]
              refine ND.yes (by omega) ?_
              refine NP.mk (by omega) ?_
              refine NG.mapN (by omega) ?_
              refine NP.mk (by kernel_rfl) ?_
              apply NDr.rd [1]
              · intro fH TH
                exact ⟨rfl, rfl⟩
              apply NDr.pure
              · refine NCall.call (h1) rfl rfl ?_
                exact ⟨rfl, rfl⟩
              apply NDr.pure
              · exact ⟨rfl, rfl⟩
              apply NDr.pure
              · exact ⟨rfl, rfl⟩
              apply NDr.pure
              · exact ⟨rfl, rfl⟩
              apply NDr.pure
              · refine ND.yes (by omega) ?_
                exact ⟨rfl, rfl⟩
              apply NDr.pure
              · exact ⟨rfl, rfl⟩
              apply NDr.rd [0]
              · intro fH TH
                exact ⟨rfl, rfl⟩
              apply NDr.rd [0]
              · intro fH TH
                exact ⟨rfl, rfl⟩
              apply NDr.pure
              · exact ⟨rfl, rfl⟩
              apply NDr.pure
              · refine NW.i64 (by omega) (by omega) ?_
                exact ⟨rfl, rfl⟩
              apply NDr.pure
              · refine NP.mk (by omega) ?_
                rw [(ek)]
                refine NG.mapN (by omega) ?_
                exact ⟨rfl, rfl⟩
              apply NDr.pure
              · exact ⟨rfl, rfl⟩
              apply NDr.rd [1]
              · intro fH TH
                exact ⟨rfl, rfl⟩
              apply NDr.pure
              · refine NCall.call (h2) rfl rfl ?_
                exact ⟨rfl, rfl⟩
              apply NDr.pure
              · refine ND.yes (by omega) ?_
                exact ⟨rfl, rfl⟩
              apply NDr.pure
              · exact ⟨rfl, rfl⟩
              apply NDr.pure
              · exact ⟨rfl, rfl⟩
              refine NP.mk (by kernel_rfl) ?_
              exact NRet.mk [] rfl ⟨.refl _, rfl⟩
            | true =>
              have hq := ho.2 hr
              refine ND.yes (by omega) ?_
              refine NP.mk (by omega) ?_
              refine NG.mapN (by omega) ?_
              refine NP.mk (by kernel_rfl) ?_
              apply NDr.rd [1]
              · intro fH TH
                exact ⟨rfl, rfl⟩
              apply NDr.pure
              · refine NCall.call (h1) rfl rfl ?_
                exact ⟨rfl, rfl⟩
              apply NDr.pure
              · exact ⟨rfl, rfl⟩
              apply NDr.pure
              · exact ⟨rfl, rfl⟩
              apply NDr.pure
              · exact ⟨rfl, rfl⟩
              apply NDr.pure
              · refine ND.yes (by omega) ?_
                exact ⟨rfl, rfl⟩
              apply NDr.pure
              · exact ⟨rfl, rfl⟩
              apply NDr.rd [0]
              · intro fH TH
                exact ⟨rfl, rfl⟩
              apply NDr.rd [0]
              · intro fH TH
                exact ⟨rfl, rfl⟩
              apply NDr.pure
              · exact ⟨rfl, rfl⟩
              apply NDr.pure
              · refine NW.i64 (by omega) (by omega) ?_
                exact ⟨rfl, rfl⟩
              apply NDr.pure
              · refine NP.mk (by omega) ?_
                rw [(ek)]
                refine NG.mapN (by omega) ?_
                exact ⟨rfl, rfl⟩
              apply NDr.pure
              · exact ⟨rfl, rfl⟩
              apply NDr.rd [1]
              · intro fH TH
                exact ⟨rfl, rfl⟩
              apply NDr.pure
              · refine NCall.call (h2) rfl rfl ?_
                exact ⟨rfl, rfl⟩
              apply NDr.pure
              · refine ND.no (by omega) ?_
                exact ⟨rfl, rfl⟩
              apply NDr.pure
              · exact ⟨rfl, rfl⟩
              apply NDr.pure
              · exact ⟨rfl, rfl⟩
              refine NP.mk (by kernel_rfl) ?_
              refine NW.i64 (by omega) (by omega) ?_
              exact Canon.mk [0] rfl ⟨e.drops.length - (k + 1 + 1), by omega, k + 1 + 1, by omega, rfl, seen_succ hil hs hp hr, rfl, rfl⟩
      · have : i = e.drops.length := by omega
        subst this
        rw [seen_end hs, Bool.true_and]
        have h3 := made_walk node seq e
        by_cases hk : e.kind = 0
        · rw [if_pos hk]
          have h4 := itemFormed_walk (made node seq { e with kind := 1 }) (smMade he)
          refine ND.no (by omega) ?_
          refine ND.yes (by omega) ?_
          refine NCall.call (h3) rfl rfl ?_
          refine NCall.call (h4) rfl rfl ?_
          refine NB.mk (fun hk3 => ?_) (fun hk3 => ?_)
          · refine NB.yes (by simp [*]) ?_
            refine NB.yes (by simp [*]) ?_
            refine NB.dec (fun hk6 => ?_) (fun hk6 => ?_)
            · refine NB.mk (fun hk7 => ?_) (fun hk7 => ?_)
              · refine NB.dec (fun hk8 => ?_) (fun hk8 => ?_)
                · refine NRet.boolE (b := true) ?_ (NRet.mk [] rfl ⟨.refl _, rfl⟩)
                  grind [List.length_eq_zero_iff]
                refine NRet.boolE (b := false) ?_ (NRet.mk [] rfl ⟨.refl _, rfl⟩)
                grind [List.length_eq_zero_iff]
              refine NRet.boolE (b := false) ?_ (NRet.mk [] rfl ⟨.refl _, rfl⟩)
              grind [List.length_eq_zero_iff]
            refine NB.yes (by simp [*]) ?_
            refine NRet.boolE (b := false) ?_ (NRet.mk [] rfl ⟨.refl _, rfl⟩)
            grind [List.length_eq_zero_iff]
          refine NB.no (by simp [*]) ?_
          refine NB.no (by simp [*]) ?_
          refine NB.no (by simp [*]) ?_
          refine NRet.boolE (b := false) ?_ (NRet.mk [] rfl ⟨.refl _, rfl⟩)
          grind [List.length_eq_zero_iff]
        · rw [if_neg hk]
          have h4 := itemFormed_walk (made node seq e) (smMade he)
          refine ND.no (by omega) ?_
          refine ND.no (by omega) ?_
          refine NCall.call (h3) rfl rfl ?_
          refine NCall.call (h4) rfl rfl ?_
          exact NRet.mk [] rfl ⟨.refl _, rfl⟩
  · rw [decide_eq_false h, Bool.false_and, Bool.false_and]
    refine ND.yes (by (simp only [List.length_map, List.length_append, List.length_replicate, List.length_cons, List.length_nil, List.length_take, List.length_drop]; omega)) ?_
    exact NRet.mk [] rfl ⟨.refl _, rfl⟩
def ownBad (node seq : Int) (e : Eff) (d : Dot) : Bool := decide (d.node = node ∧ d.seq = seq ∧ e.at' ≤ d.at')
theorem ownOk_any (node seq : Int) (e : Eff) : ownOk node seq e = !e.drops.any (ownBad node seq e) := by
  unfold ownOk ownBad
  rw [List.not_any_eq_all_not]
  congr 1; funext d
  simp
  grind
def atLt (a b : Eff) : Bool := decide (a.at' < b.at')
def eff1 (node seq : Int) (e : Eff) : Bool := effOk node seq e && ownOk node seq e
theorem rightF_walk (node seq : Int) (e : Eff) (d : Dot) : ACalls Try.prog Nm.eff_Right_1 [dotA d, .ptr 0 0 0, .ptr 1 0 0, .ptr 2 0 0] [.row .box .leaf [i64 node], .row .box .leaf [i64 seq], .row .box (.agg 7) [effA e]] (.bool (ownBad node seq e d)) [.row .box .leaf [i64 node], .row .box .leaf [i64 seq], .row .box (.agg 7) [effA e]] := by
  refine ACalls_of tab (dr_snd tab mixed) Nm.eff_Right_1_h rfl (by kernel_rfl) (Nat.le_of_ble_eq_true rfl) rfl ?_
  rw [ownBad]
  refine NB.dec (fun hk1 => ?_) (fun hk1 => ?_)
  · refine NB.dec (fun hk2 => ?_) (fun hk2 => ?_)
    · refine NB.dec (fun hk3 => ?_) (fun hk3 => ?_)
      · refine NRet.boolE (b := true) ?_ (NRet.mk [] rfl ⟨.refl _, rfl⟩)
        (simp only [decide_eq_true_eq, decide_eq_false_iff_not, eq_comm (a := true), eq_comm (a := false)]; omega)
      refine NRet.boolE (b := false) ?_ (NRet.mk [] rfl ⟨.refl _, rfl⟩)
      (simp only [decide_eq_true_eq, decide_eq_false_iff_not, eq_comm (a := true), eq_comm (a := false)]; omega)
    refine NRet.boolE (b := false) ?_ (NRet.mk [] rfl ⟨.refl _, rfl⟩)
    (simp only [decide_eq_true_eq, decide_eq_false_iff_not, eq_comm (a := true), eq_comm (a := false)]; omega)
  refine NRet.boolE (b := false) ?_ (NRet.mk [] rfl ⟨.refl _, rfl⟩)
  (simp only [decide_eq_true_eq, decide_eq_false_iff_not, eq_comm (a := true), eq_comm (a := false)]; omega)
def H3 (node seq : Int) (e : Eff) : List Blk := [.row .box .leaf [i64 node], .row .box .leaf [i64 seq], .row .box (.agg 7) [effA e]]
/-- slices.IndexFunc of dots; the function looks into three boxes. -/
theorem indexD_walk (g : Nat) (node seq : Int) (e : Eff) (l : List Dot) (p : Dot → Bool) (hl : l.length ≤ 2 ^ 40) (hg : ∀ d ∈ l, ACalls Try.prog g [dotA d, .ptr 0 0 0, .ptr 1 0 0, .ptr 2 0 0] (H3 node seq e) (.bool (p d)) (H3 node seq e)) :
    ACalls Try.prog Nm.slices_IndexFunc_api_Dot_api_Dot [dotsA l, .fn g [.ptr 0 0 0, .ptr 1 0 0, .ptr 2 0 0]] (H3 node seq e) (i64 (ixI p l)) (H3 node seq e) := by
  unfold H3 at *
  refine ACalls_of tab (dr_snd tab mixed) Nm.slices_IndexFunc_api_Dot_api_Dot_h rfl (by kernel_rfl) (Nat.le_of_ble_eq_true rfl) rfl ?_
  refine NLoop.mk [] [0, 1, 6, 7, 8] (fun m vs H => ∃ i, i ≤ l.length ∧ m = l.length - i ∧ (∀ x ∈ l.take i, p x = false) ∧ H = [.row .box .leaf [i64 node], .row .box .leaf [i64 seq], .row .box (.agg 7) [effA e]] ∧ vs = [dotsA l, .fn g [.ptr 0 0 0, .ptr 1 0 0, .ptr 2 0 0], dotsA l, i64 l.length, i64 i]) rfl ?_ ?_
  · exact Canon.mk [] rfl ⟨l.length, 0, Nat.zero_le _, rfl, by simp, rfl, by simp [dotsA, i64]⟩
  · rintro m vs H ⟨i, hi, rfl, ht, rfl, rfl⟩
    by_cases hil : i < l.length
    · have hc := hg _ (List.getElem_mem hil)
      obtain ⟨f1, f2⟩ := find_step hil ht
      cases hp : p l[i] with
      | true =>
        rw [hp] at hc
        rw [f1 hp]
        refine ND.yes (by omega) ?_
        refine NP.mk (by omega) ?_
        refine NG.mapN (by omega) ?_
        refine NCall.atA (hc) ?_
        exact NRet.mk [] rfl ⟨.refl _, rfl⟩
      | false =>
        rw [hp] at hc
        refine ND.yes (by omega) ?_
        refine NP.mk (by omega) ?_
        refine NG.mapN (by omega) ?_
        refine NCall.atA (hc) ?_
        refine NW.i64 (by omega) (by omega) ?_
        exact Canon.mk [] rfl ⟨l.length - (i + 1), by omega, i + 1, by omega, rfl, f2 hp, rfl, rfl⟩
    · have : i = l.length := by omega
      subst this
      rw [List.take_length] at ht
      rw [find_none ht]
      refine ND.no (by omega) ?_
      exact NRet.mk [] rfl ⟨.refl _, rfl⟩
theorem containsD_walk (g : Nat) (node seq : Int) (e : Eff) (l : List Dot) (p : Dot → Bool) (hl : l.length ≤ 2 ^ 40) (hg : ∀ d ∈ l, ACalls Try.prog g [dotA d, .ptr 0 0 0, .ptr 1 0 0, .ptr 2 0 0] (H3 node seq e) (.bool (p d)) (H3 node seq e)) :
    ACalls Try.prog Nm.slices_ContainsFunc_api_Dot_api_Dot [dotsA l, .fn g [.ptr 0 0 0, .ptr 1 0 0, .ptr 2 0 0]] (H3 node seq e) (.bool (l.any p)) (H3 node seq e) := by
  have hi := indexD_walk g node seq e l p hl hg
  unfold H3 at *
  refine ACalls_of tab (dr_snd tab mixed) Nm.slices_ContainsFunc_api_Dot_api_Dot_h rfl (by kernel_rfl) (Nat.le_of_ble_eq_true rfl) rfl ?_
  rw [ixI_any]
  by_cases h : 0 ≤ ixI p l
  · rw [decide_eq_true h]
    refine NCall.atA (hi) ?_
    refine ND.yes (by omega) ?_
    exact NRet.mk [] rfl ⟨.refl _, rfl⟩
  · rw [decide_eq_false h]
    refine NCall.atA (hi) ?_
    refine ND.no (by omega) ?_
    exact NRet.mk [] rfl ⟨.refl _, rfl⟩
theorem right_walk (node seq : Int) (l : List Eff) (hl : l.length ≤ 2 ^ 40) (hx : ∀ e ∈ l, smEff e) : ACalls Try.prog Nm.eff_Right [i64 node, i64 seq, effsA l] [] (.bool (effsOk node seq l)) [] := by
  refine ACalls_of tab (dr_snd tab mixed) Nm.eff_Right_h rfl (by kernel_rfl) (Nat.le_of_ble_eq_true rfl) rfl ?_
  have e0 : effsOk node seq l = (l.all (eff1 node seq) && adj atLt l) := rfl
  rw [e0]
  refine NLoop.mk [] [2, 3, 4, 9, 10, 11] (fun m vs H => ∃ i, i ≤ l.length ∧ m = l.length - i ∧ Seen (eff1 node seq) atLt l i ∧ H = [.row .box .leaf [i64 node], .row .box .leaf [i64 seq]] ∧ vs = [effsA l, .ptr 0 0 0, .ptr 1 0 0, effsA l, i64 l.length, i64 i]) rfl ?_ ?_
  · exact Canon.mk [0, 1] rfl ⟨l.length, 0, Nat.zero_le _, rfl, seen0 _ _ _, rfl, by simp [effsA, i64]⟩
  · rintro m vs H ⟨i, hi, rfl, hs, rfl, rfl⟩
    by_cases hil : i < l.length
    · have hxi := hx _ (List.getElem_mem hil)
      have h1 := effFormed_walk node seq l[i] hxi
      have h64 := hxi.2.2.2
      cases hp : effOk node seq l[i] with
      | false =>
        rw [hp] at h1
        rw [seen_p hil (by unfold eff1; rw [hp, Bool.false_and])]
        refine ND.yes (by omega) ?_
        refine NP.mk (by omega) ?_
        refine NG.mapN (by omega) ?_
        refine NP.mk (by kernel_rfl) ?_
        apply NDr.rd [0]
        · intro fH TH
          exact ⟨rfl, rfl⟩
        apply NDr.rd [1]
        · intro fH TH
          exact ⟨rfl, rfl⟩
        apply NDr.rd [2]
        · intro fH TH
          exact ⟨rfl, rfl⟩
        apply NDr.pure
        · refine NCall.call (h1) rfl rfl ?_
          exact ⟨rfl, rfl⟩
        apply NDr.pure
        · exact ⟨rfl, rfl⟩
        apply NDr.pure
        · exact ⟨rfl, rfl⟩
        apply NDr.pure
        · exact ⟨rfl, rfl⟩
        refine NP.mk (by kernel_rfl) ?_
        exact NRet.mk [] rfl ⟨.refl _, rfl⟩
      | true =>
        rw [hp] at h1
        have h2 := containsD_walk Nm.eff_Right_1 node seq l[i] l[i].drops (ownBad node seq l[i]) h64 (fun d _ => rightF_walk node seq l[i] d)
        unfold H3 at h2
        cases hb : l[i].drops.any (ownBad node seq l[i]) with
        | true =>
          rw [hb] at h2
          have e1 : eff1 node seq l[i] = false := by unfold eff1; rw [hp, Bool.true_and, ownOk_any, hb]; rfl
          rw [seen_p hil e1]
          cases i with
          | zero => refine ND.yes (by omega) ?_
                    refine NP.mk (by omega) ?_
                    refine NG.mapN (by omega) ?_
                    refine NP.mk (by kernel_rfl) ?_
                    apply NDr.rd [0]
                    · intro fH TH
                      exact ⟨rfl, rfl⟩
                    apply NDr.rd [1]
                    · intro fH TH
                      exact ⟨rfl, rfl⟩
                    apply NDr.rd [2]
                    · intro fH TH
                      exact ⟨rfl, rfl⟩
                    apply NDr.pure
                    · refine NCall.call (h1) rfl rfl ?_
                      exact ⟨rfl, rfl⟩
                    apply NDr.pure
                    · exact ⟨rfl, rfl⟩
                    apply NDr.pure
                    · exact ⟨rfl, rfl⟩
                    apply NDr.pure
                    · exact ⟨rfl, rfl⟩
                    apply NDr.pure
                    · refine ND.no (by omega) ?_
                      exact ⟨rfl, rfl⟩
                    apply NDr.pure
                    · exact ⟨rfl, rfl⟩
                    apply NDr.pure
                    · exact ⟨rfl, rfl⟩
                    apply NDr.pure
                    · exact ⟨rfl, rfl⟩
                    refine NP.mk (by kernel_rfl) ?_
                    refine NCall.atA (h2) ?_
                    exact NRet.mk [] rfl ⟨.refl _, rfl⟩
          | succ k =>
            have ek : Int.toNat (((k + 1 : Nat) : Int) - 1) = k := by omega
            refine ND.yes (by omega) ?_
            refine NP.mk (by omega) ?_
            refine NG.mapN (by omega) ?_
            refine NP.mk (by kernel_rfl) ?_
            apply NDr.rd [0]
            · intro fH TH
              exact ⟨rfl, rfl⟩
            apply NDr.rd [1]
            · intro fH TH
              exact ⟨rfl, rfl⟩
            apply NDr.rd [2]
            · intro fH TH
              exact ⟨rfl, rfl⟩
            apply NDr.pure
            · refine NCall.call (h1) rfl rfl ?_
              exact ⟨rfl, rfl⟩
            apply NDr.pure
            · exact ⟨rfl, rfl⟩
            apply NDr.pure
            · exact ⟨rfl, rfl⟩
            apply NDr.pure
            · exact ⟨rfl, rfl⟩
            apply NDr.pure
            · refine ND.yes (by omega) ?_
              exact ⟨rfl, rfl⟩
            apply NDr.pure
            · exact ⟨rfl, rfl⟩
            apply NDr.pure
            · exact ⟨rfl, rfl⟩
            apply NDr.pure
            · exact ⟨rfl, rfl⟩
            apply NDr.pure
            · refine NW.i64 (by omega) (by omega) ?_
              exact ⟨rfl, rfl⟩
            apply NDr.pure
            · refine NP.mk (by omega) ?_
              rw [(ek)]
              refine NG.mapN (by omega) ?_
              exact ⟨rfl, rfl⟩
            apply NDr.pure
            · exact ⟨rfl, rfl⟩
            apply NDr.pure
            · exact ⟨rfl, rfl⟩
            apply NDr.rd [2]
            · intro fH TH
              exact ⟨rfl, rfl⟩
            apply NDr.rd [2]
            · intro fH TH
              exact ⟨rfl, rfl⟩
            apply NDr.pure
            · exact NB.det
            apply NDr.pure
            · exact ⟨rfl, rfl⟩
            apply NDr.pure
            · exact ⟨rfl, rfl⟩
            refine NP.mk (by kernel_rfl) ?_
            refine NB.mk (fun hk4 => ?_) (fun hk4 => ?_)
            · exact NRet.mk [] rfl ⟨.refl _, rfl⟩
            refine NCall.atA (h2) ?_
            exact NRet.mk [] rfl ⟨.refl _, rfl⟩
        | false =>
          rw [hb] at h2
          have e1 : eff1 node seq l[i] = true := by unfold eff1; rw [hp, Bool.true_and, ownOk_any, hb]; rfl
          cases i with
          | zero =>
            refine ND.yes (by omega) ?_
            refine NP.mk (by omega) ?_
            refine NG.mapN (by omega) ?_
            refine NP.mk (by kernel_rfl) ?_
            apply NDr.rd [0]
            · intro fH TH
              exact ⟨rfl, rfl⟩
            apply NDr.rd [1]
            · intro fH TH
              exact ⟨rfl, rfl⟩
            apply NDr.rd [2]
            · intro fH TH
              exact ⟨rfl, rfl⟩
            apply NDr.pure
            · refine NCall.call (h1) rfl rfl ?_
              exact ⟨rfl, rfl⟩
            apply NDr.pure
            · exact ⟨rfl, rfl⟩
            apply NDr.pure
            · exact ⟨rfl, rfl⟩
            apply NDr.pure
            · exact ⟨rfl, rfl⟩
            apply NDr.pure
            · refine ND.no (by omega) ?_
              exact ⟨rfl, rfl⟩
            apply NDr.pure
            · exact ⟨rfl, rfl⟩
            apply NDr.pure
            · exact ⟨rfl, rfl⟩
            apply NDr.pure
            · exact ⟨rfl, rfl⟩
            refine NP.mk (by kernel_rfl) ?_
            refine NCall.atA (h2) ?_
            refine NW.i64 (by omega) (by omega) ?_
            exact Canon.mk [0, 1] rfl ⟨l.length - (0 + 1), by omega, 0 + 1, by omega, rfl, seen_zero hil e1, rfl, rfl⟩
          | succ k =>
            have ek : Int.toNat (((k + 1 : Nat) : Int) - 1) = k := by omega
            cases hr : atLt l[k] l[k + 1] with
            | false =>
              have hr' := hr
              unfold atLt at hr'
              rw [decide_eq_false_iff_not] at hr'
              rw [seen_r hil hr]
              refine ND.yes (by omega) ?_
              refine NP.mk (by omega) ?_
              refine NG.mapN (by omega) ?_
              refine NP.mk (by kernel_rfl) ?_
              apply NDr.rd [0]
              · intro fH TH
                exact ⟨rfl, rfl⟩
              apply NDr.rd [1]
              · intro fH TH
                exact ⟨rfl, rfl⟩
              apply NDr.rd [2]
              · intro fH TH
                exact ⟨rfl, rfl⟩
              apply NDr.pure
              · refine NCall.call (h1) rfl rfl ?_
                exact ⟨rfl, rfl⟩
              apply NDr.pure
              · exact ⟨rfl, rfl⟩
              apply NDr.pure
              · exact ⟨rfl, rfl⟩
              apply NDr.pure
              · exact ⟨rfl, rfl⟩
              apply NDr.pure
              · refine ND.yes (by omega) ?_
                exact ⟨rfl, rfl⟩
              apply NDr.pure
              · exact ⟨rfl, rfl⟩
              apply NDr.pure
              · exact ⟨rfl, rfl⟩
              apply NDr.pure
              · exact ⟨rfl, rfl⟩
              apply NDr.pure
              · refine NW.i64 (by omega) (by omega) ?_
                exact ⟨rfl, rfl⟩
              apply NDr.pure
              · refine NP.mk (by omega) ?_
                rw [(ek)]
                refine NG.mapN (by omega) ?_
                exact ⟨rfl, rfl⟩
              apply NDr.pure
              · exact ⟨rfl, rfl⟩
              apply NDr.pure
              · exact ⟨rfl, rfl⟩
              apply NDr.rd [2]
              · intro fH TH
                exact ⟨rfl, rfl⟩
              apply NDr.rd [2]
              · intro fH TH
                exact ⟨rfl, rfl⟩
              apply NDr.pure
              · refine ND.yes (by omega) ?_
                exact ⟨rfl, rfl⟩
              apply NDr.pure
              · exact ⟨rfl, rfl⟩
              apply NDr.pure
              · exact ⟨rfl, rfl⟩
              refine NP.mk (by kernel_rfl) ?_
              exact NRet.mk [] rfl ⟨.refl _, rfl⟩
            | true =>
              have hr' := hr
              unfold atLt at hr'
              rw [decide_eq_true_eq] at hr'
              refine ND.yes (by omega) ?_
              refine NP.mk (by omega) ?_
              refine NG.mapN (by omega) ?_
              refine NP.mk (by kernel_rfl) ?_
              apply NDr.rd [0]
              · intro fH TH
                exact ⟨rfl, rfl⟩
              apply NDr.rd [1]
              · intro fH TH
                exact ⟨rfl, rfl⟩
              apply NDr.rd [2]
              · intro fH TH
                exact ⟨rfl, rfl⟩
              apply NDr.pure
              · refine NCall.call (h1) rfl rfl ?_
                exact ⟨rfl, rfl⟩
              apply NDr.pure
              · exact ⟨rfl, rfl⟩
              apply NDr.pure
              · exact ⟨rfl, rfl⟩
              apply NDr.pure
              · exact ⟨rfl, rfl⟩
              apply NDr.pure
              · refine ND.yes (by omega) ?_
                exact ⟨rfl, rfl⟩
              apply NDr.pure
              · exact ⟨rfl, rfl⟩
              apply NDr.pure
              · exact ⟨rfl, rfl⟩
              apply NDr.pure
              · exact ⟨rfl, rfl⟩
              apply NDr.pure
              · refine NW.i64 (by omega) (by omega) ?_
                exact ⟨rfl, rfl⟩
              apply NDr.pure
              · refine NP.mk (by omega) ?_
                rw [(ek)]
                refine NG.mapN (by omega) ?_
                exact ⟨rfl, rfl⟩
              apply NDr.pure
              · exact ⟨rfl, rfl⟩
              apply NDr.pure
              · exact ⟨rfl, rfl⟩
              apply NDr.rd [2]
              · intro fH TH
                exact ⟨rfl, rfl⟩
              apply NDr.rd [2]
              · intro fH TH
                exact ⟨rfl, rfl⟩
              apply NDr.pure
              · refine ND.no (by omega) ?_
                exact ⟨rfl, rfl⟩
              apply NDr.pure
              · exact ⟨rfl, rfl⟩
              apply NDr.pure
              · exact ⟨rfl, rfl⟩
              refine NP.mk (by kernel_rfl) ?_
              refine NCall.atA (h2) ?_
              refine NW.i64 (by omega) (by omega) ?_
              exact Canon.mk [0, 1] rfl ⟨l.length - (k + 1 + 1), by omega, k + 1 + 1, by omega, rfl, seen_succ hil hs e1 hr, rfl, rfl⟩
    · have : i = l.length := by omega
      subst this
      rw [seen_end hs]
      refine ND.no (by omega) ?_
      exact NRet.mk [] rfl ⟨.refl _, rfl⟩
end Go.Bv
namespace Go.Bv
open Go Go.Proofs
def lexR {α β : Type} (f : α → β) (r : β → β → Prop) (s : α → α → Prop) (a b : α) : Prop := r (f a) (f b) ∨ f a = f b ∧ s a b
def lexD {α β : Type} [DecidableEq β] {f : α → β} {r : β → β → Prop} {s : α → α → Prop} [DecidableRel r] (hs : DecidableRel s) : DecidableRel (lexR f r s) := fun a b => have := hs a b; inferInstanceAs (Decidable (r (f a) (f b) ∨ f a = f b ∧ s a b))
theorem lex_irrefl {α β : Type} {f : α → β} {r : β → β → Prop} {s : α → α → Prop} (hr : ∀ x, ¬ r x x) (hs : ∀ x, ¬ s x x) : ∀ x, ¬ lexR f r s x x := fun x h => by
  rcases h with h | h
  · exact hr _ h
  · exact hs _ h.2
theorem lex_trans {α β : Type} {f : α → β} {r : β → β → Prop} {s : α → α → Prop} (hr : ∀ x y z, r x y → r y z → r x z) (hs : ∀ x y z, s x y → s y z → s x z) : ∀ x y z, lexR f r s x y → lexR f r s y z → lexR f r s x z := fun x y z h k => by
  rcases h with h | ⟨h1, h2⟩ <;> rcases k with k | ⟨k1, k2⟩
  · exact .inl (hr _ _ _ h k)
  · exact .inl (k1 ▸ h)
  · exact .inl (h1 ▸ k)
  · exact .inr ⟨h1.trans k1, hs _ _ _ h2 k2⟩
theorem lex_tri {α β : Type} {f : α → β} {r : β → β → Prop} {s E : α → α → Prop} (hr : ∀ x y, r x y ∨ x = y ∨ r y x) (hs : ∀ x y, s x y ∨ E x y ∨ s y x) : ∀ x y, lexR f r s x y ∨ (f x = f y ∧ E x y) ∨ lexR f r s y x := fun x y => by
  rcases hr (f x) (f y) with h | h | h
  · exact .inl (.inl h)
  · rcases hs x y with k | k | k
    · exact .inl (.inr ⟨h, k⟩)
    · exact .inr (.inl ⟨h, k⟩)
    · exact .inr (.inr (.inr ⟨h.symm, k⟩))
  · exact .inr (.inr (.inl h))
def ltS (a b : List UInt8) : Prop := a < b
instance : DecidableRel ltS := fun a b => inferInstanceAs (Decidable (a < b))
def ltZ (a b : Int) : Prop := a < b
instance : DecidableRel ltZ := fun a b => inferInstanceAs (Decidable (a < b))
def ltN (a b : Item) : Prop := ltZ a.n b.n
instance : DecidableRel ltN := fun a b => inferInstanceAs (Decidable (a.n < b.n))
def ILt : Item → Item → Prop := lexR Item.key ltS (lexR Item.field ltS (lexR Item.kind ltZ (lexR (fun x => x.dot.node) ltZ (lexR (fun x => x.dot.seq) ltZ (lexR (fun x => x.dot.at') ltZ (lexR Item.elem ltS ltN))))))
instance : DecidableRel ILt := lexD (lexD (lexD (lexD (lexD (lexD (lexD (inferInstanceAs (DecidableRel ltN))))))))
theorem ltS_irrefl (x : List UInt8) : ¬ ltS x x := List.lt_irrefl x
theorem ltS_trans (x y z : List UInt8) (h1 : ltS x y) (h2 : ltS y z) : ltS x z := List.lt_trans h1 h2
theorem ltS_tri (x y : List UInt8) : ltS x y ∨ x = y ∨ ltS y x := by
  by_cases h1 : x < y
  · exact .inl h1
  · by_cases h2 : y < x
    · exact .inr (.inr h2)
    · exact .inr (.inl (List.le_antisymm (List.not_lt.1 h2) (List.not_lt.1 h1)))
theorem ltZ_irrefl (x : Int) : ¬ ltZ x x := Int.lt_irrefl x
theorem ltZ_trans (x y z : Int) (h1 : ltZ x y) (h2 : ltZ y z) : ltZ x z := Int.lt_trans h1 h2
theorem ltZ_tri (x y : Int) : ltZ x y ∨ x = y ∨ ltZ y x := Int.lt_trichotomy x y
theorem ILt_irrefl (x : Item) : ¬ ILt x x := lex_irrefl ltS_irrefl (lex_irrefl ltS_irrefl (lex_irrefl ltZ_irrefl (lex_irrefl ltZ_irrefl (lex_irrefl ltZ_irrefl (lex_irrefl ltZ_irrefl (lex_irrefl ltS_irrefl fun x => ltZ_irrefl x.n)))))) x
theorem ILt_trans {x y z : Item} (h1 : ILt x y) (h2 : ILt y z) : ILt x z :=
  lex_trans ltS_trans (lex_trans ltS_trans (lex_trans ltZ_trans (lex_trans ltZ_trans (lex_trans ltZ_trans (lex_trans ltZ_trans (lex_trans ltS_trans fun x y z => ltZ_trans x.n y.n z.n)))))) x y z h1 h2
theorem ILt_tri (x y : Item) : ILt x y ∨ x = y ∨ ILt y x := by
  rcases lex_tri (f := Item.key) ltS_tri (lex_tri (f := Item.field) ltS_tri (lex_tri (f := Item.kind) ltZ_tri (lex_tri (f := fun x : Item => x.dot.node) ltZ_tri (lex_tri (f := fun x : Item => x.dot.seq) ltZ_tri (lex_tri (f := fun x : Item => x.dot.at') ltZ_tri
    (lex_tri (f := Item.elem) ltS_tri (s := ltN) (E := fun a b => a.n = b.n) fun x y => ltZ_tri x.n y.n)))))) x y with h | ⟨h1, h2, h3, h4, h5, h6, h7, h8⟩ | h
  · exact .inl h
  · exact .inr (.inl (Item.ext h1 h2 h3 h7 h8 (Dot.ext h4 h5 h6)))
  · exact .inr (.inr h)
def ltI (a b : Item) : Bool := decide (ILt a b)
instance : Inhabited Item := ⟨⟨[], [], 0, [], 0, ⟨0, 0, 0⟩⟩⟩
theorem swoI : Go.Sort.SWO ltI where
  irrefl x := decide_eq_false (ILt_irrefl x)
  trans x y z h1 h2 := decide_eq_true (ILt_trans (of_decide_eq_true h1) (of_decide_eq_true h2))
  ntrans x y z h1 h2 := decide_eq_false fun h => by
    have h1 := of_decide_eq_false h1
    have h2 := of_decide_eq_false h2
    rcases ILt_tri x y with k | rfl | k
    · exact h1 k
    · exact h2 h
    · exact h2 (ILt_trans k h)
def leI (x y : Item) : Bool := !ltI y x
def isort (l : List Item) : List Item := l.mergeSort leI
theorem pdq_isort (l : List Item) (limit : Nat) : (Go.Sort.pdq ltI l.toArray 0 l.length limit true true).toList = isort l := by
  have h := Go.Sort.pdq_sorts ltI swoI l.toArray 0 l.length limit true true (Nat.zero_le _) (by simp) (Or.inl rfl)
  have := Go.Sort.sorted_unique_holds swoI (fun x y h1 h2 => by
    rcases ILt_tri x y with k | k | k
    · exact absurd k (of_decide_eq_false h1)
    · exact k
    · exact absurd k (of_decide_eq_false h2)) l.toArray _ (by simpa using h.1) (by simpa using h.2)
  exact this
theorem isort_perm (l : List Item) : (isort l).Perm l := List.mergeSort_perm _ _
theorem isort_pw (l : List Item) : (isort l).Pairwise fun a b => ¬ ILt b a := by
  have := List.pairwise_mergeSort (le := leI) (fun a b c h1 h2 => by
    unfold leI at *
    simp only [Bool.not_eq_true'] at *
    exact swoI.ntrans c b a h2 h1) (fun a b => by
    unfold leI ltI
    rcases ILt_tri a b with k | rfl | k
    · have : ¬ ILt b a := fun h => ILt_irrefl _ (ILt_trans h k)
      simp [this]
    · simp [ILt_irrefl]
    · have : ¬ ILt a b := fun h => ILt_irrefl _ (ILt_trans h k)
      simp [this]) l
  exact this.imp fun h => by unfold leI ltI at h; simpa using h
/-- Of each dot the first one. -/
def nubF : List Dot → List Item → List Item
  | _, [] => []
  | seen, x :: r => if x.dot ∈ seen then nubF seen r else x :: nubF (x.dot :: seen) r
def norm (l : List Item) : List Item := nubF [] (isort l)
theorem nubF_sub : ∀ (seen : List Dot) (l : List Item), (nubF seen l).Sublist l
  | _, [] => .slnil
  | seen, x :: r => by
    rw [nubF]
    split
    · exact (nubF_sub seen r).cons _
    · exact (nubF_sub _ r).cons₂ _
theorem nubF_mem : ∀ {l : List Item} (seen : List Dot), l.Pairwise (fun a b => ¬ ILt b a) → ∀ x, x ∈ nubF seen l ↔ x.dot ∉ seen ∧ x ∈ l ∧ ∀ y ∈ l, y.dot = x.dot → ¬ ILt y x
  | [], seen, _, x => by simp [nubF]
  | a :: r, seen, h, x => by
    rw [List.pairwise_cons] at h
    rw [nubF]
    split
    · rename_i ha
      rw [nubF_mem seen h.2 x]
      constructor
      · rintro ⟨h1, h2, h3⟩
        refine ⟨h1, List.mem_cons_of_mem _ h2, fun y hy e => ?_⟩
        rcases List.mem_cons.1 hy with rfl | hy
        · exact absurd (e ▸ ha) h1
        · exact h3 y hy e
      · rintro ⟨h1, h2, h3⟩
        refine ⟨h1, ?_, fun y hy => h3 y (List.mem_cons_of_mem _ hy)⟩
        rcases List.mem_cons.1 h2 with rfl | h2
        · exact absurd ha h1
        · exact h2
    · rename_i ha
      rw [List.mem_cons, nubF_mem _ h.2 x]
      constructor
      · rintro (rfl | ⟨h1, h2, h3⟩)
        · refine ⟨ha, List.mem_cons_self .., fun y hy _ => ?_⟩
          rcases List.mem_cons.1 hy with rfl | hy
          · exact ILt_irrefl _
          · exact h.1 y hy
        · rw [List.mem_cons, not_or] at h1
          refine ⟨h1.2, List.mem_cons_of_mem _ h2, fun y hy e => ?_⟩
          rcases List.mem_cons.1 hy with rfl | hy
          · exact absurd e.symm h1.1
          · exact h3 y hy e
      · rintro ⟨h1, h2, h3⟩
        by_cases e : x.dot = a.dot
        · refine .inl ?_
          rcases List.mem_cons.1 h2 with rfl | h2
          · rfl
          · rcases ILt_tri x a with k | k | k
            · exact absurd k (h.1 x h2)
            · exact k
            · exact absurd k (h3 a (List.mem_cons_self ..) e.symm)
        · refine .inr ⟨by rw [List.mem_cons, not_or]; exact ⟨e, h1⟩, ?_, fun y hy => h3 y (List.mem_cons_of_mem _ hy)⟩
          rcases List.mem_cons.1 h2 with rfl | h2
          · exact absurd rfl e
          · exact h2
theorem nubF_seen : ∀ (l : List Item) (seen : List Dot), ∀ x ∈ nubF seen l, x.dot ∉ seen
  | [], _, x, h => by simp [nubF] at h
  | a :: r, seen, x, h => by
    rw [nubF] at h
    split at h
    · exact nubF_seen r seen x h
    · rcases List.mem_cons.1 h with rfl | h
      · assumption
      · exact fun hx => nubF_seen r _ x h (List.mem_cons_of_mem _ hx)
theorem nubF_dots : ∀ (l : List Item) (seen : List Dot), (nubF seen l).Pairwise fun a b => a.dot ≠ b.dot
  | [], _ => by simp [nubF]
  | a :: r, seen => by
    rw [nubF]
    split
    · exact nubF_dots r seen
    · refine List.pairwise_cons.2 ⟨fun x hx e => nubF_seen r _ x hx ?_, nubF_dots r _⟩
      rw [← e]; exact List.mem_cons_self ..
/-- What of some items is the least of its dot. -/
def Lst (l : List Item) (x : Item) : Prop := x ∈ l ∧ ∀ y ∈ l, y.dot = x.dot → ¬ ILt y x
theorem mem_norm {l : List Item} {x : Item} : x ∈ norm l ↔ Lst l x := by
  unfold norm
  rw [nubF_mem [] (isort_pw l)]
  simp only [List.not_mem_nil, not_false_eq_true, true_and, (isort_perm l).mem_iff]
  rfl
theorem norm_dots (l : List Item) : (norm l).Pairwise fun a b => a.dot ≠ b.dot := nubF_dots _ _
theorem norm_pw (l : List Item) : (norm l).Pairwise ILt := by
  refine (norm_dots l).imp₂ ?_ ((isort_pw l).sublist (nubF_sub [] _))
  intro a b h1 h2
  rcases ILt_tri a b with k | rfl | k
  · exact k
  · exact absurd rfl h1
  · exact absurd k h2
theorem pwI_eq {l m : List Item} (hl : l.Pairwise ILt) (hm : m.Pairwise ILt) (h : ∀ x, x ∈ l ↔ x ∈ m) : l = m := by
  have nl : l.Nodup := hl.imp fun {a b} h => fun e => ILt_irrefl b (by rwa [e] at h)
  have nm : m.Nodup := hm.imp fun {a b} h => fun e => ILt_irrefl b (by rwa [e] at h)
  refine List.Perm.eq_of_pairwise (le := ILt) ?_ hl hm ((List.perm_ext_iff_of_nodup nl nm).2 h)
  intro a b _ _ h1 h2
  exact absurd (ILt_trans h1 h2) (ILt_irrefl a)
theorem norm_eq {l m : List Item} (h : ∀ x, Lst l x ↔ Lst m x) : norm l = norm m :=
  pwI_eq (norm_pw l) (norm_pw m) fun x => by rw [mem_norm, mem_norm]; exact h x
theorem norm_congr {l m : List Item} (h : ∀ x, x ∈ l ↔ x ∈ m) : norm l = norm m := norm_eq fun x => by
  unfold Lst
  simp only [h]
theorem norm_is {l m : List Item} (hm : m.Pairwise ILt) (h : ∀ x, x ∈ m ↔ Lst l x) : norm l = m :=
  pwI_eq (norm_pw l) hm fun x => by rw [mem_norm, h]
theorem norm_self {l : List Item} (h : l.Pairwise ILt) (hd : l.Pairwise fun a b => a.dot ≠ b.dot) : norm l = l := norm_is h fun x => by
  refine ⟨fun hx => ⟨hx, fun y hy e => ?_⟩, fun hx => hx.1⟩
  have : y = x := by
    rw [List.pairwise_iff_getElem] at hd
    obtain ⟨i, hi, rfl⟩ := List.getElem_of_mem hx
    obtain ⟨j, hj, rfl⟩ := List.getElem_of_mem hy
    rcases Nat.lt_trichotomy i j with k | rfl | k
    · exact absurd e.symm (hd i j hi hj k)
    · rfl
    · exact absurd e (hd j i hj hi k)
  rw [this]; exact ILt_irrefl x
theorem norm_idem (l : List Item) : norm (norm l) = norm l := norm_self (norm_pw l) (norm_dots l)
theorem ex_min : ∀ {l : List Item}, l ≠ [] → ∃ z ∈ l, ∀ w ∈ l, ¬ ILt w z
  | [], h => absurd rfl h
  | a :: r, _ => by
    by_cases hr : r = []
    · subst hr
      exact ⟨a, List.mem_cons_self .., fun w hw => by rw [List.mem_singleton.1 hw]; exact ILt_irrefl a⟩
    · obtain ⟨z, hz, hm⟩ := ex_min hr
      by_cases h : ILt a z
      · refine ⟨a, List.mem_cons_self .., fun w hw k => ?_⟩
        rcases List.mem_cons.1 hw with rfl | hw
        · exact ILt_irrefl _ k
        · exact hm w hw (ILt_trans k h)
      · refine ⟨z, List.mem_cons_of_mem _ hz, fun w hw => ?_⟩
        rcases List.mem_cons.1 hw with rfl | hw
        · exact h
        · exact hm w hw
theorem ex_lst {l : List Item} {y : Item} (h : y ∈ l) : ∃ z, Lst l z ∧ z.dot = y.dot ∧ ¬ ILt y z := by
  have hy : y ∈ l.filter fun x => decide (x.dot = y.dot) := by simp [h]
  obtain ⟨z, hz, hm⟩ := ex_min (List.ne_nil_of_mem hy)
  simp only [List.mem_filter, decide_eq_true_eq] at hz hm
  exact ⟨z, ⟨hz.1, fun w hw e => hm w ⟨hw, e.trans hz.2⟩⟩, hz.2, hm y ⟨h, rfl⟩⟩
theorem Lst.le {l : List Item} {x y : Item} (h : Lst l x) (hy : ∀ z, Lst l z → z.dot = x.dot → ¬ ILt z x) : y ∈ l → y.dot = x.dot → ¬ ILt y x := fun hy' e => h.2 y hy' e
/-- The least ones are enough. -/
theorem lst_le {l : List Item} {x : Item} (h : ∀ z, Lst l z → z.dot = x.dot → ¬ ILt z x) : ∀ y ∈ l, y.dot = x.dot → ¬ ILt y x := fun y hy e k => by
  obtain ⟨z, hz, ez, hn⟩ := ex_lst hy
  refine h z hz (ez.trans e) ?_
  rcases ILt_tri y z with k' | rfl | k'
  · exact absurd k' hn
  · exact k
  · exact ILt_trans k' k
theorem lst_of {l m : List Item} (h : norm l = norm m) (x : Item) : Lst l x ↔ Lst m x := by
  rw [← mem_norm, ← mem_norm, h]
theorem norm_app {l m : List Item} (h : norm l = norm m) (c : List Item) : norm (l ++ c) = norm (m ++ c) := by
  have hl := lst_of h
  have one : ∀ {l m : List Item}, (∀ x, Lst l x ↔ Lst m x) → ∀ x, Lst (l ++ c) x → Lst (m ++ c) x := by
    intro l m hl x hx
    have hle : ∀ y ∈ m ++ c, y.dot = x.dot → ¬ ILt y x := by
      intro y hy e
      rcases List.mem_append.1 hy with hy | hy
      · refine lst_le (l := m) (fun z hz ez => ?_) y hy e
        exact hx.2 z (List.mem_append_left _ ((hl z).2 hz).1) ez
      · exact hx.2 y (List.mem_append_right _ hy) e
    refine ⟨?_, hle⟩
    rcases List.mem_append.1 hx.1 with h1 | h1
    · exact List.mem_append_left _ ((hl x).1 ⟨h1, fun y hy => hx.2 y (List.mem_append_left _ hy)⟩).1
    · exact List.mem_append_right _ h1
  exact norm_eq fun x => ⟨one hl x, one (fun x => (hl x).symm) x⟩
theorem norm_filter {l m : List Item} (h : norm l = norm m) (p : Dot → Bool) : norm (l.filter fun x => p x.dot) = norm (m.filter fun x => p x.dot) := by
  have hl := lst_of h
  have one : ∀ {l m : List Item}, (∀ x, Lst l x ↔ Lst m x) → ∀ x, Lst (l.filter fun x => p x.dot) x → Lst (m.filter fun x => p x.dot) x := by
    intro l m hl x hx
    obtain ⟨h1, h2⟩ := hx
    rw [List.mem_filter] at h1
    have : Lst m x := (hl x).1 ⟨h1.1, fun y hy e => h2 y (List.mem_filter.2 ⟨hy, by rw [e]; exact h1.2⟩) e⟩
    exact ⟨List.mem_filter.2 ⟨this.1, h1.2⟩, fun y hy => this.2 y (List.mem_filter.1 hy).1⟩
  exact norm_eq fun x => ⟨one hl x, one (fun x => (hl x).symm) x⟩
end Go.Bv
