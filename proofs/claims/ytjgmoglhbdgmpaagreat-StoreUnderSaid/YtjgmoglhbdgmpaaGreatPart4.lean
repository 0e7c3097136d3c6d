/- Part of the lift: an abstract walk of the program's code, proved sound, and what it shows of this program. -/
import Derived.Test.YtjgmoglhbdgmpaaGreatPart3
namespace Go.Bv
open Go
section
variable {α β : Type} {f : α → β} {a b : α} {l r : List α} {n : Nat}
theorem z0 : List.map f (a :: l) = f a :: List.map f l := rfl
theorem z1 : List.map f [] = [] := rfl
theorem z2 : (a :: l).length = l.length + 1 := rfl
theorem z3 : ([] : List α).length = 0 := rfl
theorem z4 : a :: l ++ r = a :: (l ++ r) := rfl
theorem z5 : [] ++ r = r := rfl
theorem z6 : (a :: l).set 0 b = b :: l := rfl
theorem z7 : (a :: l).set (n + 1) b = a :: l.set n b := rfl
theorem z8 : (a :: l)[0]? = some a := rfl
theorem z9 : (a :: l)[n + 1]? = l[n]? := rfl
theorem z10 : ([] : List α)[n]? = none := rfl
theorem z11 : (a :: l).take (n + 1) = a :: l.take n := rfl
theorem z12 : l.take 0 = [] := rfl
theorem z13 : (a :: l).drop (n + 1) = l.drop n := rfl
theorem z14 : l.drop 0 = l := rfl
theorem z15 : List.replicate (n + 1) a = a :: List.replicate n a := rfl
theorem z16 : List.replicate 0 a = [] := rfl
theorem tl0 (l : List α) : List.take l.length l = l := List.take_length
end
theorem q0 {ν : Nat} {b : Bool} : AV.sh1 ν (.bool b : AV) = .bool b := rfl
theorem q1 {ν : Nat} {k : IntKind} {n : Int} : AV.sh1 ν (.int k n : AV) = .int k n := rfl
theorem q2 {ν : Nat} {s : List UInt8} : AV.sh1 ν (.str s : AV) = .str s := rfl
theorem q3 {ν : Nat}  : AV.sh1 ν (.nils : AV) = .nils := rfl
theorem q4 {ν : Nat}  : AV.sh1 ν (.nilfn : AV) = .nilfn := rfl
theorem q5 {ν : Nat} {sh : Sh} {l : List AV} : AV.sh1 ν (.list sh l : AV) = .list sh l := rfl
theorem q6 {ν : Nat} {sh : Sh} {x : AV} {o : Nat} : AV.sh1 ν (.at sh x o : AV) = .at sh x o := rfl
theorem q7 {ν : Nat} {id : Nat} {off : Nat} {len : Nat} : AV.sh1 ν (.own id off len : AV) = .own (id + ν) off len := rfl
theorem q8 {ν : Nat} {id : Nat} {i : Nat} {o : Nat} : AV.sh1 ν (.ptr id i o : AV) = .ptr (id + ν) i o := rfl
theorem q9 {ν : Nat} {id : Nat} : AV.sh1 ν (.map id : AV) = .map (id + ν) := rfl
theorem q10 {ν : Nat} {f : FuncId} {caps : List AV} : AV.sh1 ν (.fn f caps : AV) = .fn f caps := rfl
theorem q11 {ν : Nat} {cs : List AV} : AV.sh1 ν (.agg cs : AV) = .agg cs := rfl
theorem q12 {ν : Nat} {vs : List AV} : AV.sh1 ν (.tup vs : AV) = .tup vs := rfl
theorem q13 {ν : Nat}  : AV.sh1 ν (.undef : AV) = .undef := rfl
theorem q14 {ν : Nat} {b : Bool} : AV.shR ν (.bool b : AV) = .bool b := rfl
theorem q15 {ν : Nat} {k : IntKind} {n : Int} : AV.shR ν (.int k n : AV) = .int k n := rfl
theorem q16 {ν : Nat} {s : List UInt8} : AV.shR ν (.str s : AV) = .str s := rfl
theorem q17 {ν : Nat}  : AV.shR ν (.nils : AV) = .nils := rfl
theorem q18 {ν : Nat}  : AV.shR ν (.nilfn : AV) = .nilfn := rfl
theorem q19 {ν : Nat} {sh : Sh} {l : List AV} : AV.shR ν (.list sh l : AV) = .list sh l := rfl
theorem q20 {ν : Nat} {sh : Sh} {x : AV} {o : Nat} : AV.shR ν (.at sh x o : AV) = .at sh x o := rfl
theorem q21 {ν : Nat} {id : Nat} {off : Nat} {len : Nat} : AV.shR ν (.own id off len : AV) = .own (id + ν) off len := rfl
theorem q22 {ν : Nat} {id : Nat} {i : Nat} {o : Nat} : AV.shR ν (.ptr id i o : AV) = .ptr (id + ν) i o := rfl
theorem q23 {ν : Nat} {id : Nat} : AV.shR ν (.map id : AV) = .map (id + ν) := rfl
theorem q24 {ν : Nat} {f : FuncId} {caps : List AV} : AV.shR ν (.fn f caps : AV) = .fn f (caps.map (AV.sh1 ν)) := rfl
theorem q25 {ν : Nat} {cs : List AV} : AV.shR ν (.agg cs : AV) = .agg cs := rfl
theorem q26 {ν : Nat} {vs : List AV} : AV.shR ν (.tup vs : AV) = .tup vs := rfl
theorem q27 {ν : Nat}  : AV.shR ν (.undef : AV) = .undef := rfl
theorem q28 {ν : Nat} {b : Bool} : AV.shA ν (.bool b : AV) = .bool b := rfl
theorem q29 {ν : Nat} {k : IntKind} {n : Int} : AV.shA ν (.int k n : AV) = .int k n := rfl
theorem q30 {ν : Nat} {s : List UInt8} : AV.shA ν (.str s : AV) = .str s := rfl
theorem q31 {ν : Nat}  : AV.shA ν (.nils : AV) = .nils := rfl
theorem q32 {ν : Nat}  : AV.shA ν (.nilfn : AV) = .nilfn := rfl
theorem q33 {ν : Nat} {sh : Sh} {l : List AV} : AV.shA ν (.list sh l : AV) = .list sh l := rfl
theorem q34 {ν : Nat} {sh : Sh} {x : AV} {o : Nat} : AV.shA ν (.at sh x o : AV) = .at sh x o := rfl
theorem q35 {ν : Nat} {id : Nat} {off : Nat} {len : Nat} : AV.shA ν (.own id off len : AV) = .own (id + ν) off len := rfl
theorem q36 {ν : Nat} {id : Nat} {i : Nat} {o : Nat} : AV.shA ν (.ptr id i o : AV) = .ptr (id + ν) i o := rfl
theorem q37 {ν : Nat} {id : Nat} : AV.shA ν (.map id : AV) = .map (id + ν) := rfl
theorem q38 {ν : Nat} {f : FuncId} {caps : List AV} : AV.shA ν (.fn f caps : AV) = .fn f (caps.map (AV.sh1 ν)) := rfl
theorem q39 {ν : Nat} {cs : List AV} : AV.shA ν (.agg cs : AV) = .agg (cs.map (AV.shR ν)) := rfl
theorem q40 {ν : Nat} {vs : List AV} : AV.shA ν (.tup vs : AV) = .tup vs := rfl
theorem q41 {ν : Nat}  : AV.shA ν (.undef : AV) = .undef := rfl
theorem q42 {ν : Nat} {b : Bool} : AV.shT ν (.bool b : AV) = .bool b := rfl
theorem q43 {ν : Nat} {k : IntKind} {n : Int} : AV.shT ν (.int k n : AV) = .int k n := rfl
theorem q44 {ν : Nat} {s : List UInt8} : AV.shT ν (.str s : AV) = .str s := rfl
theorem q45 {ν : Nat}  : AV.shT ν (.nils : AV) = .nils := rfl
theorem q46 {ν : Nat}  : AV.shT ν (.nilfn : AV) = .nilfn := rfl
theorem q47 {ν : Nat} {sh : Sh} {l : List AV} : AV.shT ν (.list sh l : AV) = .list sh l := rfl
theorem q48 {ν : Nat} {sh : Sh} {x : AV} {o : Nat} : AV.shT ν (.at sh x o : AV) = .at sh x o := rfl
theorem q49 {ν : Nat} {id : Nat} {off : Nat} {len : Nat} : AV.shT ν (.own id off len : AV) = .own (id + ν) off len := rfl
theorem q50 {ν : Nat} {id : Nat} {i : Nat} {o : Nat} : AV.shT ν (.ptr id i o : AV) = .ptr (id + ν) i o := rfl
theorem q51 {ν : Nat} {id : Nat} : AV.shT ν (.map id : AV) = .map (id + ν) := rfl
theorem q52 {ν : Nat} {f : FuncId} {caps : List AV} : AV.shT ν (.fn f caps : AV) = .fn f (caps.map (AV.sh1 ν)) := rfl
theorem q53 {ν : Nat} {cs : List AV} : AV.shT ν (.agg cs : AV) = .agg (cs.map (AV.shR ν)) := rfl
theorem q54 {ν : Nat} {vs : List AV} : AV.shT ν (.tup vs : AV) = .tup (vs.map (AV.shA ν)) := rfl
theorem q55 {ν : Nat}  : AV.shT ν (.undef : AV) = .undef := rfl
theorem q56 {ν : Nat → Nat} {b : Bool} : AV.rn1 ν (.bool b : AV) = .bool b := rfl
theorem q57 {ν : Nat → Nat} {k : IntKind} {n : Int} : AV.rn1 ν (.int k n : AV) = .int k n := rfl
theorem q58 {ν : Nat → Nat} {s : List UInt8} : AV.rn1 ν (.str s : AV) = .str s := rfl
theorem q59 {ν : Nat → Nat}  : AV.rn1 ν (.nils : AV) = .nils := rfl
theorem q60 {ν : Nat → Nat}  : AV.rn1 ν (.nilfn : AV) = .nilfn := rfl
theorem q61 {ν : Nat → Nat} {sh : Sh} {l : List AV} : AV.rn1 ν (.list sh l : AV) = .list sh l := rfl
theorem q62 {ν : Nat → Nat} {sh : Sh} {x : AV} {o : Nat} : AV.rn1 ν (.at sh x o : AV) = .at sh x o := rfl
theorem q63 {ν : Nat → Nat} {id : Nat} {off : Nat} {len : Nat} : AV.rn1 ν (.own id off len : AV) = .own (ν id) off len := rfl
theorem q64 {ν : Nat → Nat} {id : Nat} {i : Nat} {o : Nat} : AV.rn1 ν (.ptr id i o : AV) = .ptr (ν id) i o := rfl
theorem q65 {ν : Nat → Nat} {id : Nat} : AV.rn1 ν (.map id : AV) = .map (ν id) := rfl
theorem q66 {ν : Nat → Nat} {f : FuncId} {caps : List AV} : AV.rn1 ν (.fn f caps : AV) = .fn f caps := rfl
theorem q67 {ν : Nat → Nat} {cs : List AV} : AV.rn1 ν (.agg cs : AV) = .agg cs := rfl
theorem q68 {ν : Nat → Nat} {vs : List AV} : AV.rn1 ν (.tup vs : AV) = .tup vs := rfl
theorem q69 {ν : Nat → Nat}  : AV.rn1 ν (.undef : AV) = .undef := rfl
theorem q70 {ν : Nat → Nat} {b : Bool} : AV.rnR ν (.bool b : AV) = .bool b := rfl
theorem q71 {ν : Nat → Nat} {k : IntKind} {n : Int} : AV.rnR ν (.int k n : AV) = .int k n := rfl
theorem q72 {ν : Nat → Nat} {s : List UInt8} : AV.rnR ν (.str s : AV) = .str s := rfl
theorem q73 {ν : Nat → Nat}  : AV.rnR ν (.nils : AV) = .nils := rfl
theorem q74 {ν : Nat → Nat}  : AV.rnR ν (.nilfn : AV) = .nilfn := rfl
theorem q75 {ν : Nat → Nat} {sh : Sh} {l : List AV} : AV.rnR ν (.list sh l : AV) = .list sh l := rfl
theorem q76 {ν : Nat → Nat} {sh : Sh} {x : AV} {o : Nat} : AV.rnR ν (.at sh x o : AV) = .at sh x o := rfl
theorem q77 {ν : Nat → Nat} {id : Nat} {off : Nat} {len : Nat} : AV.rnR ν (.own id off len : AV) = .own (ν id) off len := rfl
theorem q78 {ν : Nat → Nat} {id : Nat} {i : Nat} {o : Nat} : AV.rnR ν (.ptr id i o : AV) = .ptr (ν id) i o := rfl
theorem q79 {ν : Nat → Nat} {id : Nat} : AV.rnR ν (.map id : AV) = .map (ν id) := rfl
theorem q80 {ν : Nat → Nat} {f : FuncId} {caps : List AV} : AV.rnR ν (.fn f caps : AV) = .fn f (caps.map (AV.rn1 ν)) := rfl
theorem q81 {ν : Nat → Nat} {cs : List AV} : AV.rnR ν (.agg cs : AV) = .agg cs := rfl
theorem q82 {ν : Nat → Nat} {vs : List AV} : AV.rnR ν (.tup vs : AV) = .tup vs := rfl
theorem q83 {ν : Nat → Nat}  : AV.rnR ν (.undef : AV) = .undef := rfl
theorem q84 {ν : Nat → Nat} {b : Bool} : AV.rnA ν (.bool b : AV) = .bool b := rfl
theorem q85 {ν : Nat → Nat} {k : IntKind} {n : Int} : AV.rnA ν (.int k n : AV) = .int k n := rfl
theorem q86 {ν : Nat → Nat} {s : List UInt8} : AV.rnA ν (.str s : AV) = .str s := rfl
theorem q87 {ν : Nat → Nat}  : AV.rnA ν (.nils : AV) = .nils := rfl
theorem q88 {ν : Nat → Nat}  : AV.rnA ν (.nilfn : AV) = .nilfn := rfl
theorem q89 {ν : Nat → Nat} {sh : Sh} {l : List AV} : AV.rnA ν (.list sh l : AV) = .list sh l := rfl
theorem q90 {ν : Nat → Nat} {sh : Sh} {x : AV} {o : Nat} : AV.rnA ν (.at sh x o : AV) = .at sh x o := rfl
theorem q91 {ν : Nat → Nat} {id : Nat} {off : Nat} {len : Nat} : AV.rnA ν (.own id off len : AV) = .own (ν id) off len := rfl
theorem q92 {ν : Nat → Nat} {id : Nat} {i : Nat} {o : Nat} : AV.rnA ν (.ptr id i o : AV) = .ptr (ν id) i o := rfl
theorem q93 {ν : Nat → Nat} {id : Nat} : AV.rnA ν (.map id : AV) = .map (ν id) := rfl
theorem q94 {ν : Nat → Nat} {f : FuncId} {caps : List AV} : AV.rnA ν (.fn f caps : AV) = .fn f (caps.map (AV.rn1 ν)) := rfl
theorem q95 {ν : Nat → Nat} {cs : List AV} : AV.rnA ν (.agg cs : AV) = .agg (cs.map (AV.rnR ν)) := rfl
theorem q96 {ν : Nat → Nat} {vs : List AV} : AV.rnA ν (.tup vs : AV) = .tup vs := rfl
theorem q97 {ν : Nat → Nat}  : AV.rnA ν (.undef : AV) = .undef := rfl
theorem q98 {ν : Nat → Nat} {b : Bool} : AV.rnT ν (.bool b : AV) = .bool b := rfl
theorem q99 {ν : Nat → Nat} {k : IntKind} {n : Int} : AV.rnT ν (.int k n : AV) = .int k n := rfl
theorem q100 {ν : Nat → Nat} {s : List UInt8} : AV.rnT ν (.str s : AV) = .str s := rfl
theorem q101 {ν : Nat → Nat}  : AV.rnT ν (.nils : AV) = .nils := rfl
theorem q102 {ν : Nat → Nat}  : AV.rnT ν (.nilfn : AV) = .nilfn := rfl
theorem q103 {ν : Nat → Nat} {sh : Sh} {l : List AV} : AV.rnT ν (.list sh l : AV) = .list sh l := rfl
theorem q104 {ν : Nat → Nat} {sh : Sh} {x : AV} {o : Nat} : AV.rnT ν (.at sh x o : AV) = .at sh x o := rfl
theorem q105 {ν : Nat → Nat} {id : Nat} {off : Nat} {len : Nat} : AV.rnT ν (.own id off len : AV) = .own (ν id) off len := rfl
theorem q106 {ν : Nat → Nat} {id : Nat} {i : Nat} {o : Nat} : AV.rnT ν (.ptr id i o : AV) = .ptr (ν id) i o := rfl
theorem q107 {ν : Nat → Nat} {id : Nat} : AV.rnT ν (.map id : AV) = .map (ν id) := rfl
theorem q108 {ν : Nat → Nat} {f : FuncId} {caps : List AV} : AV.rnT ν (.fn f caps : AV) = .fn f (caps.map (AV.rn1 ν)) := rfl
theorem q109 {ν : Nat → Nat} {cs : List AV} : AV.rnT ν (.agg cs : AV) = .agg (cs.map (AV.rnR ν)) := rfl
theorem q110 {ν : Nat → Nat} {vs : List AV} : AV.rnT ν (.tup vs : AV) = .tup (vs.map (AV.rnA ν)) := rfl
theorem q111 {ν : Nat → Nat}  : AV.rnT ν (.undef : AV) = .undef := rfl
theorem q112 {ν : Nat} : Blk.shift ν (.dead : Blk) = .dead := rfl
theorem q113 {ν : Nat} {sh : Sh} {es : List AV} : Blk.shift ν (.row .row sh es : Blk) = .row .row sh es := rfl
theorem q114 {ν : Nat} {sh : Sh} {es : List AV} : Blk.shift ν (.row .vrow sh es : Blk) = .row .vrow sh es := rfl
theorem q115 {ν : Nat} {sh : Sh} {es : List AV} : Blk.shift ν (.row .box sh es : Blk) = .row .box sh (es.map (AV.shA ν)) := rfl
theorem q116 {ν : Nat} {sh : Sh} {es : List AV} : Blk.shift ν (.ro sh es : Blk) = .ro sh es := rfl
theorem q117 {ν : Nat} {es : List (AV × AV)} : Blk.shift ν (.map es : Blk) = .map es := rfl
theorem q118 {ν : Nat → Nat} : Blk.rn ν (.dead : Blk) = .dead := rfl
theorem q119 {ν : Nat → Nat} {sh : Sh} {es : List AV} : Blk.rn ν (.row .row sh es : Blk) = .row .row sh es := rfl
theorem q120 {ν : Nat → Nat} {sh : Sh} {es : List AV} : Blk.rn ν (.row .vrow sh es : Blk) = .row .vrow sh es := rfl
theorem q121 {ν : Nat → Nat} {sh : Sh} {es : List AV} : Blk.rn ν (.row .box sh es : Blk) = .row .box sh (es.map (AV.rnA ν)) := rfl
theorem q122 {ν : Nat → Nat} {sh : Sh} {es : List AV} : Blk.rn ν (.ro sh es : Blk) = .ro sh es := rfl
theorem q123 {ν : Nat → Nat} {es : List (AV × AV)} : Blk.rn ν (.map es : Blk) = .map es := rfl
theorem q124 {H : List Blk} {b : Bool} : thaw H (.bool b : AV) = .bool b := rfl
theorem q125 {H : List Blk} {b : Bool} : thawA H (.bool b : AV) = .bool b := rfl
theorem q126 {H : List Blk} {k : IntKind} {n : Int} : thaw H (.int k n : AV) = .int k n := rfl
theorem q127 {H : List Blk} {k : IntKind} {n : Int} : thawA H (.int k n : AV) = .int k n := rfl
theorem q128 {H : List Blk} {s : List UInt8} : thaw H (.str s : AV) = .str s := rfl
theorem q129 {H : List Blk} {s : List UInt8} : thawA H (.str s : AV) = .str s := rfl
theorem q130 {H : List Blk}  : thaw H (.nils : AV) = .nils := rfl
theorem q131 {H : List Blk}  : thawA H (.nils : AV) = .nils := rfl
theorem q132 {H : List Blk}  : thaw H (.nilfn : AV) = .nilfn := rfl
theorem q133 {H : List Blk}  : thawA H (.nilfn : AV) = .nilfn := rfl
theorem q134 {H : List Blk} {sh : Sh} {l : List AV} : thaw H (.list sh l : AV) = .list sh l := rfl
theorem q135 {H : List Blk} {sh : Sh} {l : List AV} : thawA H (.list sh l : AV) = .list sh l := rfl
theorem q136 {H : List Blk} {sh : Sh} {x : AV} {o : Nat} : thaw H (.at sh x o : AV) = .at sh x o := rfl
theorem q137 {H : List Blk} {sh : Sh} {x : AV} {o : Nat} : thawA H (.at sh x o : AV) = .at sh x o := rfl
theorem q138 {H : List Blk} {id : Nat} {i : Nat} {o : Nat} : thaw H (.ptr id i o : AV) = .ptr id i o := rfl
theorem q139 {H : List Blk} {id : Nat} {i : Nat} {o : Nat} : thawA H (.ptr id i o : AV) = .ptr id i o := rfl
theorem q140 {H : List Blk} {id : Nat} : thaw H (.map id : AV) = .map id := rfl
theorem q141 {H : List Blk} {id : Nat} : thawA H (.map id : AV) = .map id := rfl
theorem q142 {H : List Blk} {f : FuncId} {caps : List AV} : thaw H (.fn f caps : AV) = .fn f caps := rfl
theorem q143 {H : List Blk} {f : FuncId} {caps : List AV} : thawA H (.fn f caps : AV) = .fn f caps := rfl
theorem q144 {H : List Blk} {cs : List AV} : thaw H (.agg cs : AV) = .agg cs := rfl
theorem q145 {H : List Blk} {cs : List AV} : thawA H (.agg cs : AV) = .agg (cs.map (thaw H)) := rfl
theorem q146 {H : List Blk} {vs : List AV} : thaw H (.tup vs : AV) = .tup vs := rfl
theorem q147 {H : List Blk} {vs : List AV} : thawA H (.tup vs : AV) = .tup vs := rfl
theorem q148 {H : List Blk}  : thaw H (.undef : AV) = .undef := rfl
theorem q149 {H : List Blk}  : thawA H (.undef : AV) = .undef := rfl
theorem q150 {H : List Blk} {id off len : Nat} : thawA H (.own id off len) = thaw H (.own id off len) := rfl
theorem y0 {cs : List AV} {o : Nat} : setCells cs o [] = cs := rfl
theorem y1 {cs r : List AV} {o : Nat} {x : AV} : setCells cs o (x :: r) = setCells (cs.set o x) (o + 1) r := rfl
theorem y2 {cs : List AV} : AV.cells (.agg cs) = cs := rfl
theorem y3 {b : Bool} : AV.cells (.bool b) = [.bool b] := rfl
theorem y4 {k : IntKind} {n : Int} : AV.cells (.int k n) = [.int k n] := rfl
theorem y5 {s : List UInt8} : AV.cells (.str s) = [.str s] := rfl
theorem y6  : AV.cells (.nils) = [.nils] := rfl
theorem y7  : AV.cells (.nilfn) = [.nilfn] := rfl
theorem y8 {sh : Sh} {l : List AV} : AV.cells (.list sh l) = [.list sh l] := rfl
theorem y9 {sh : Sh} {x : AV} {o : Nat} : AV.cells (.at sh x o) = [.at sh x o] := rfl
theorem y10 {id : Nat} {off : Nat} {len : Nat} : AV.cells (.own id off len) = [.own id off len] := rfl
theorem y11 {id : Nat} {i : Nat} {o : Nat} : AV.cells (.ptr id i o) = [.ptr id i o] := rfl
theorem y12 {id : Nat} : AV.cells (.map id) = [.map id] := rfl
theorem y13 {f : FuncId} {caps : List AV} : AV.cells (.fn f caps) = [.fn f caps] := rfl
theorem y14 {vs : List AV} : AV.cells (.tup vs) = [.tup vs] := rfl
theorem y15  : AV.cells (.undef) = [.undef] := rfl
end Go.Bv
namespace Go.Bv
open Go
section
variable {P : Program} {f : FuncId} {args args' : List AV} {H H' H'' : List Blk} {r r' : AV} {next : AV → List Blk → Prop}
theorem NCall.atA (h : ACalls P f args H r H') (hn : next r' H'')
    (er : r = r' := by (try dsimp only [z0, z1, z2, z3, z4, z5, z6, z7, z8, z9, z10, z11, z12, z13, z14, z15, z16, y0, y1, y2, y3, y4, y5, y6, y7, y8, y9, y10, y11, y12, y13, y14, y15, Nat.reduceAdd, Nat.reduceSub, q0, q1, q2, q3, q4, q5, q6, q7, q8, q9, q10, q11, q12, q13, q14, q15, q16, q17, q18, q19, q20, q21, q22, q23, q24, q25, q26, q27, q28, q29, q30, q31, q32, q33, q34, q35, q36, q37, q38, q39, q40, q41, q42, q43, q44, q45, q46, q47, q48, q49, q50, q51, q52, q53, q54, q55, q56, q57, q58, q59, q60, q61, q62, q63, q64, q65, q66, q67, q68, q69, q70, q71, q72, q73, q74, q75, q76, q77, q78, q79, q80, q81, q82, q83, q84, q85, q86, q87, q88, q89, q90, q91, q92, q93, q94, q95, q96, q97, q98, q99, q100, q101, q102, q103, q104, q105, q106, q107, q108, q109, q110, q111, q112, q113, q114, q115, q116, q117, q118, q119, q120, q121, q122, q123, q124, q125, q126, q127, q128, q129, q130, q131, q132, q133, q134, q135, q136, q137, q138, q139, q140, q141, q142, q143, q144, q145, q146, q147, q148, q149, q150, rho, setAll, roAll, thaw]) <;> exact rfl)
    (eH : H' = H'' := by (try dsimp only [z0, z1, z2, z3, z4, z5, z6, z7, z8, z9, z10, z11, z12, z13, z14, z15, z16, y0, y1, y2, y3, y4, y5, y6, y7, y8, y9, y10, y11, y12, y13, y14, y15, Nat.reduceAdd, Nat.reduceSub, q0, q1, q2, q3, q4, q5, q6, q7, q8, q9, q10, q11, q12, q13, q14, q15, q16, q17, q18, q19, q20, q21, q22, q23, q24, q25, q26, q27, q28, q29, q30, q31, q32, q33, q34, q35, q36, q37, q38, q39, q40, q41, q42, q43, q44, q45, q46, q47, q48, q49, q50, q51, q52, q53, q54, q55, q56, q57, q58, q59, q60, q61, q62, q63, q64, q65, q66, q67, q68, q69, q70, q71, q72, q73, q74, q75, q76, q77, q78, q79, q80, q81, q82, q83, q84, q85, q86, q87, q88, q89, q90, q91, q92, q93, q94, q95, q96, q97, q98, q99, q100, q101, q102, q103, q104, q105, q106, q107, q108, q109, q110, q111, q112, q113, q114, q115, q116, q117, q118, q119, q120, q121, q122, q123, q124, q125, q126, q127, q128, q129, q130, q131, q132, q133, q134, q135, q136, q137, q138, q139, q140, q141, q142, q143, q144, q145, q146, q147, q148, q149, q150, rho, setAll, roAll, thaw]) <;> exact rfl) : NCall P f args H next := NCall.atN h er eH hn
theorem NCall.subA {args0 : List AV} {H0 H0' : List Blk} (S : List Nat) (h : ACalls P f args0 H0 r H0') (hn : next r' H'')
    (hS : nodupB S = true := by exact rfl)
    (hH : S.map (fun j => H[j]?) = H0.map (fun b => some (b.rn (rho S H.length))) := by first | exact rfl | (simp [rho, Blk.rn, AV.rnA, AV.rnR, AV.rn1]; done))
    (ha : args = args0.map (AV.rnA (rho S H.length)) := by first | exact rfl | (simp [rho, AV.rnA, AV.rnR, AV.rn1]; done))
    (er : r.rnT (rho S H.length) = r' := by (try dsimp only [z0, z1, z2, z3, z4, z5, z6, z7, z8, z9, z10, z11, z12, z13, z14, z15, z16, y0, y1, y2, y3, y4, y5, y6, y7, y8, y9, y10, y11, y12, y13, y14, y15, Nat.reduceAdd, Nat.reduceSub, q0, q1, q2, q3, q4, q5, q6, q7, q8, q9, q10, q11, q12, q13, q14, q15, q16, q17, q18, q19, q20, q21, q22, q23, q24, q25, q26, q27, q28, q29, q30, q31, q32, q33, q34, q35, q36, q37, q38, q39, q40, q41, q42, q43, q44, q45, q46, q47, q48, q49, q50, q51, q52, q53, q54, q55, q56, q57, q58, q59, q60, q61, q62, q63, q64, q65, q66, q67, q68, q69, q70, q71, q72, q73, q74, q75, q76, q77, q78, q79, q80, q81, q82, q83, q84, q85, q86, q87, q88, q89, q90, q91, q92, q93, q94, q95, q96, q97, q98, q99, q100, q101, q102, q103, q104, q105, q106, q107, q108, q109, q110, q111, q112, q113, q114, q115, q116, q117, q118, q119, q120, q121, q122, q123, q124, q125, q126, q127, q128, q129, q130, q131, q132, q133, q134, q135, q136, q137, q138, q139, q140, q141, q142, q143, q144, q145, q146, q147, q148, q149, q150, rho, setAll, roAll, thaw]) <;> exact rfl)
    (eH : setAll H S ((H0'.take S.length).map (Blk.rn (rho S H.length))) ++ (H0'.drop S.length).map (Blk.rn (rho S H.length)) = H'' := by (try dsimp only [z0, z1, z2, z3, z4, z5, z6, z7, z8, z9, z10, z11, z12, z13, z14, z15, z16, y0, y1, y2, y3, y4, y5, y6, y7, y8, y9, y10, y11, y12, y13, y14, y15, Nat.reduceAdd, Nat.reduceSub, q0, q1, q2, q3, q4, q5, q6, q7, q8, q9, q10, q11, q12, q13, q14, q15, q16, q17, q18, q19, q20, q21, q22, q23, q24, q25, q26, q27, q28, q29, q30, q31, q32, q33, q34, q35, q36, q37, q38, q39, q40, q41, q42, q43, q44, q45, q46, q47, q48, q49, q50, q51, q52, q53, q54, q55, q56, q57, q58, q59, q60, q61, q62, q63, q64, q65, q66, q67, q68, q69, q70, q71, q72, q73, q74, q75, q76, q77, q78, q79, q80, q81, q82, q83, q84, q85, q86, q87, q88, q89, q90, q91, q92, q93, q94, q95, q96, q97, q98, q99, q100, q101, q102, q103, q104, q105, q106, q107, q108, q109, q110, q111, q112, q113, q114, q115, q116, q117, q118, q119, q120, q121, q122, q123, q124, q125, q126, q127, q128, q129, q130, q131, q132, q133, q134, q135, q136, q137, q138, q139, q140, q141, q142, q143, q144, q145, q146, q147, q148, q149, q150, rho, setAll, roAll, thaw]) <;> exact rfl) :
    NCall P f args H next := NCall.sub S h hS hH ha er eH hn
theorem NCall.roA (ids : List Nat) (h : NCall P f args' H' next)
    (eH : roAll H ids = H' := by (try dsimp only [z0, z1, z2, z3, z4, z5, z6, z7, z8, z9, z10, z11, z12, z13, z14, z15, z16, y0, y1, y2, y3, y4, y5, y6, y7, y8, y9, y10, y11, y12, y13, y14, y15, Nat.reduceAdd, Nat.reduceSub, q0, q1, q2, q3, q4, q5, q6, q7, q8, q9, q10, q11, q12, q13, q14, q15, q16, q17, q18, q19, q20, q21, q22, q23, q24, q25, q26, q27, q28, q29, q30, q31, q32, q33, q34, q35, q36, q37, q38, q39, q40, q41, q42, q43, q44, q45, q46, q47, q48, q49, q50, q51, q52, q53, q54, q55, q56, q57, q58, q59, q60, q61, q62, q63, q64, q65, q66, q67, q68, q69, q70, q71, q72, q73, q74, q75, q76, q77, q78, q79, q80, q81, q82, q83, q84, q85, q86, q87, q88, q89, q90, q91, q92, q93, q94, q95, q96, q97, q98, q99, q100, q101, q102, q103, q104, q105, q106, q107, q108, q109, q110, q111, q112, q113, q114, q115, q116, q117, q118, q119, q120, q121, q122, q123, q124, q125, q126, q127, q128, q129, q130, q131, q132, q133, q134, q135, q136, q137, q138, q139, q140, q141, q142, q143, q144, q145, q146, q147, q148, q149, q150, rho, setAll, roAll, thaw]) <;> exact rfl)
    (ea : args.map (thawA H') = args' := by (try dsimp only [z0, z1, z2, z3, z4, z5, z6, z7, z8, z9, z10, z11, z12, z13, z14, z15, z16, y0, y1, y2, y3, y4, y5, y6, y7, y8, y9, y10, y11, y12, y13, y14, y15, Nat.reduceAdd, Nat.reduceSub, q0, q1, q2, q3, q4, q5, q6, q7, q8, q9, q10, q11, q12, q13, q14, q15, q16, q17, q18, q19, q20, q21, q22, q23, q24, q25, q26, q27, q28, q29, q30, q31, q32, q33, q34, q35, q36, q37, q38, q39, q40, q41, q42, q43, q44, q45, q46, q47, q48, q49, q50, q51, q52, q53, q54, q55, q56, q57, q58, q59, q60, q61, q62, q63, q64, q65, q66, q67, q68, q69, q70, q71, q72, q73, q74, q75, q76, q77, q78, q79, q80, q81, q82, q83, q84, q85, q86, q87, q88, q89, q90, q91, q92, q93, q94, q95, q96, q97, q98, q99, q100, q101, q102, q103, q104, q105, q106, q107, q108, q109, q110, q111, q112, q113, q114, q115, q116, q117, q118, q119, q120, q121, q122, q123, q124, q125, q126, q127, q128, q129, q130, q131, q132, q133, q134, q135, q136, q137, q138, q139, q140, q141, q142, q143, q144, q145, q146, q147, q148, q149, q150, rho, setAll, roAll, thaw]) <;> exact rfl) : NCall P f args H next := NCall.ro ids eH ea h
end
section
variable {H H'' : List Blk} {id off len : Nat} {kk : RK} {sh : Sh} {es xs es' : List AV} {bytes n l : Nat} {next : AV → List Blk → Prop}
theorem NApp.endA (h1 : len = es.length) (hb : (es.length + xs.length) * bytes ≤ 2 ^ 46) (hn : next (.own n 0 l) H'') (h0 : off = 0 := by exact rfl)
    (en : H.length = n := by (try dsimp only [z0, z1, z2, z3, z4, z5, z6, z7, z8, z9, z10, z11, z12, z13, z14, z15, z16, y0, y1, y2, y3, y4, y5, y6, y7, y8, y9, y10, y11, y12, y13, y14, y15, Nat.reduceAdd, Nat.reduceSub, q0, q1, q2, q3, q4, q5, q6, q7, q8, q9, q10, q11, q12, q13, q14, q15, q16, q17, q18, q19, q20, q21, q22, q23, q24, q25, q26, q27, q28, q29, q30, q31, q32, q33, q34, q35, q36, q37, q38, q39, q40, q41, q42, q43, q44, q45, q46, q47, q48, q49, q50, q51, q52, q53, q54, q55, q56, q57, q58, q59, q60, q61, q62, q63, q64, q65, q66, q67, q68, q69, q70, q71, q72, q73, q74, q75, q76, q77, q78, q79, q80, q81, q82, q83, q84, q85, q86, q87, q88, q89, q90, q91, q92, q93, q94, q95, q96, q97, q98, q99, q100, q101, q102, q103, q104, q105, q106, q107, q108, q109, q110, q111, q112, q113, q114, q115, q116, q117, q118, q119, q120, q121, q122, q123, q124, q125, q126, q127, q128, q129, q130, q131, q132, q133, q134, q135, q136, q137, q138, q139, q140, q141, q142, q143, q144, q145, q146, q147, q148, q149, q150, rho, setAll, roAll, thaw]) <;> exact rfl)
    (ee : es ++ xs = es' := by (try dsimp only [z0, z1, z2, z3, z4, z5, z6, z7, z8, z9, z10, z11, z12, z13, z14, z15, z16, y0, y1, y2, y3, y4, y5, y6, y7, y8, y9, y10, y11, y12, y13, y14, y15, Nat.reduceAdd, Nat.reduceSub, q0, q1, q2, q3, q4, q5, q6, q7, q8, q9, q10, q11, q12, q13, q14, q15, q16, q17, q18, q19, q20, q21, q22, q23, q24, q25, q26, q27, q28, q29, q30, q31, q32, q33, q34, q35, q36, q37, q38, q39, q40, q41, q42, q43, q44, q45, q46, q47, q48, q49, q50, q51, q52, q53, q54, q55, q56, q57, q58, q59, q60, q61, q62, q63, q64, q65, q66, q67, q68, q69, q70, q71, q72, q73, q74, q75, q76, q77, q78, q79, q80, q81, q82, q83, q84, q85, q86, q87, q88, q89, q90, q91, q92, q93, q94, q95, q96, q97, q98, q99, q100, q101, q102, q103, q104, q105, q106, q107, q108, q109, q110, q111, q112, q113, q114, q115, q116, q117, q118, q119, q120, q121, q122, q123, q124, q125, q126, q127, q128, q129, q130, q131, q132, q133, q134, q135, q136, q137, q138, q139, q140, q141, q142, q143, q144, q145, q146, q147, q148, q149, q150, rho, setAll, roAll, thaw]) <;> exact rfl)
    (el : (es ++ xs).length = l := by (try dsimp only [z0, z1, z2, z3, z4, z5, z6, z7, z8, z9, z10, z11, z12, z13, z14, z15, z16, y0, y1, y2, y3, y4, y5, y6, y7, y8, y9, y10, y11, y12, y13, y14, y15, Nat.reduceAdd, Nat.reduceSub, q0, q1, q2, q3, q4, q5, q6, q7, q8, q9, q10, q11, q12, q13, q14, q15, q16, q17, q18, q19, q20, q21, q22, q23, q24, q25, q26, q27, q28, q29, q30, q31, q32, q33, q34, q35, q36, q37, q38, q39, q40, q41, q42, q43, q44, q45, q46, q47, q48, q49, q50, q51, q52, q53, q54, q55, q56, q57, q58, q59, q60, q61, q62, q63, q64, q65, q66, q67, q68, q69, q70, q71, q72, q73, q74, q75, q76, q77, q78, q79, q80, q81, q82, q83, q84, q85, q86, q87, q88, q89, q90, q91, q92, q93, q94, q95, q96, q97, q98, q99, q100, q101, q102, q103, q104, q105, q106, q107, q108, q109, q110, q111, q112, q113, q114, q115, q116, q117, q118, q119, q120, q121, q122, q123, q124, q125, q126, q127, q128, q129, q130, q131, q132, q133, q134, q135, q136, q137, q138, q139, q140, q141, q142, q143, q144, q145, q146, q147, q148, q149, q150, rho, setAll, roAll, thaw]) <;> exact rfl)
    (eH : H.set id .dead ++ [.row kk sh es'] = H'' := by (try dsimp only [z0, z1, z2, z3, z4, z5, z6, z7, z8, z9, z10, z11, z12, z13, z14, z15, z16, y0, y1, y2, y3, y4, y5, y6, y7, y8, y9, y10, y11, y12, y13, y14, y15, Nat.reduceAdd, Nat.reduceSub, q0, q1, q2, q3, q4, q5, q6, q7, q8, q9, q10, q11, q12, q13, q14, q15, q16, q17, q18, q19, q20, q21, q22, q23, q24, q25, q26, q27, q28, q29, q30, q31, q32, q33, q34, q35, q36, q37, q38, q39, q40, q41, q42, q43, q44, q45, q46, q47, q48, q49, q50, q51, q52, q53, q54, q55, q56, q57, q58, q59, q60, q61, q62, q63, q64, q65, q66, q67, q68, q69, q70, q71, q72, q73, q74, q75, q76, q77, q78, q79, q80, q81, q82, q83, q84, q85, q86, q87, q88, q89, q90, q91, q92, q93, q94, q95, q96, q97, q98, q99, q100, q101, q102, q103, q104, q105, q106, q107, q108, q109, q110, q111, q112, q113, q114, q115, q116, q117, q118, q119, q120, q121, q122, q123, q124, q125, q126, q127, q128, q129, q130, q131, q132, q133, q134, q135, q136, q137, q138, q139, q140, q141, q142, q143, q144, q145, q146, q147, q148, q149, q150, rho, setAll, roAll, thaw]) <;> exact rfl) : NApp H id off len kk sh es xs bytes next := NApp.enddN h0 h1 hb en ee el eH hn
theorem NApp.inA (h1 : off + len + xs.length ≤ es.length) (hn : next (.own id off l) H'')
    (el : len + xs.length = l := by (try dsimp only [z0, z1, z2, z3, z4, z5, z6, z7, z8, z9, z10, z11, z12, z13, z14, z15, z16, y0, y1, y2, y3, y4, y5, y6, y7, y8, y9, y10, y11, y12, y13, y14, y15, Nat.reduceAdd, Nat.reduceSub, q0, q1, q2, q3, q4, q5, q6, q7, q8, q9, q10, q11, q12, q13, q14, q15, q16, q17, q18, q19, q20, q21, q22, q23, q24, q25, q26, q27, q28, q29, q30, q31, q32, q33, q34, q35, q36, q37, q38, q39, q40, q41, q42, q43, q44, q45, q46, q47, q48, q49, q50, q51, q52, q53, q54, q55, q56, q57, q58, q59, q60, q61, q62, q63, q64, q65, q66, q67, q68, q69, q70, q71, q72, q73, q74, q75, q76, q77, q78, q79, q80, q81, q82, q83, q84, q85, q86, q87, q88, q89, q90, q91, q92, q93, q94, q95, q96, q97, q98, q99, q100, q101, q102, q103, q104, q105, q106, q107, q108, q109, q110, q111, q112, q113, q114, q115, q116, q117, q118, q119, q120, q121, q122, q123, q124, q125, q126, q127, q128, q129, q130, q131, q132, q133, q134, q135, q136, q137, q138, q139, q140, q141, q142, q143, q144, q145, q146, q147, q148, q149, q150, rho, setAll, roAll, thaw]) <;> exact rfl)
    (ee : es.take (off + len) ++ (xs ++ es.drop (off + len + xs.length)) = es' := by (try dsimp only [z0, z1, z2, z3, z4, z5, z6, z7, z8, z9, z10, z11, z12, z13, z14, z15, z16, y0, y1, y2, y3, y4, y5, y6, y7, y8, y9, y10, y11, y12, y13, y14, y15, Nat.reduceAdd, Nat.reduceSub, q0, q1, q2, q3, q4, q5, q6, q7, q8, q9, q10, q11, q12, q13, q14, q15, q16, q17, q18, q19, q20, q21, q22, q23, q24, q25, q26, q27, q28, q29, q30, q31, q32, q33, q34, q35, q36, q37, q38, q39, q40, q41, q42, q43, q44, q45, q46, q47, q48, q49, q50, q51, q52, q53, q54, q55, q56, q57, q58, q59, q60, q61, q62, q63, q64, q65, q66, q67, q68, q69, q70, q71, q72, q73, q74, q75, q76, q77, q78, q79, q80, q81, q82, q83, q84, q85, q86, q87, q88, q89, q90, q91, q92, q93, q94, q95, q96, q97, q98, q99, q100, q101, q102, q103, q104, q105, q106, q107, q108, q109, q110, q111, q112, q113, q114, q115, q116, q117, q118, q119, q120, q121, q122, q123, q124, q125, q126, q127, q128, q129, q130, q131, q132, q133, q134, q135, q136, q137, q138, q139, q140, q141, q142, q143, q144, q145, q146, q147, q148, q149, q150, rho, setAll, roAll, thaw]) <;> exact rfl)
    (eH : H.set id (.row kk sh es') = H'' := by (try dsimp only [z0, z1, z2, z3, z4, z5, z6, z7, z8, z9, z10, z11, z12, z13, z14, z15, z16, y0, y1, y2, y3, y4, y5, y6, y7, y8, y9, y10, y11, y12, y13, y14, y15, Nat.reduceAdd, Nat.reduceSub, q0, q1, q2, q3, q4, q5, q6, q7, q8, q9, q10, q11, q12, q13, q14, q15, q16, q17, q18, q19, q20, q21, q22, q23, q24, q25, q26, q27, q28, q29, q30, q31, q32, q33, q34, q35, q36, q37, q38, q39, q40, q41, q42, q43, q44, q45, q46, q47, q48, q49, q50, q51, q52, q53, q54, q55, q56, q57, q58, q59, q60, q61, q62, q63, q64, q65, q66, q67, q68, q69, q70, q71, q72, q73, q74, q75, q76, q77, q78, q79, q80, q81, q82, q83, q84, q85, q86, q87, q88, q89, q90, q91, q92, q93, q94, q95, q96, q97, q98, q99, q100, q101, q102, q103, q104, q105, q106, q107, q108, q109, q110, q111, q112, q113, q114, q115, q116, q117, q118, q119, q120, q121, q122, q123, q124, q125, q126, q127, q128, q129, q130, q131, q132, q133, q134, q135, q136, q137, q138, q139, q140, q141, q142, q143, q144, q145, q146, q147, q148, q149, q150, rho, setAll, roAll, thaw]) <;> exact rfl) : NApp H id off len kk sh es xs bytes next := NApp.inplN h1 el ee eH hn
theorem NApp.roA (h1 : len = es.length) (hb : (es.length + xs.length) * bytes ≤ 2 ^ 46) (hn : next (.list sh es') H'') (h0 : off = 0 := by exact rfl)
    (ee : es ++ xs = es' := by (try dsimp only [z0, z1, z2, z3, z4, z5, z6, z7, z8, z9, z10, z11, z12, z13, z14, z15, z16, y0, y1, y2, y3, y4, y5, y6, y7, y8, y9, y10, y11, y12, y13, y14, y15, Nat.reduceAdd, Nat.reduceSub, q0, q1, q2, q3, q4, q5, q6, q7, q8, q9, q10, q11, q12, q13, q14, q15, q16, q17, q18, q19, q20, q21, q22, q23, q24, q25, q26, q27, q28, q29, q30, q31, q32, q33, q34, q35, q36, q37, q38, q39, q40, q41, q42, q43, q44, q45, q46, q47, q48, q49, q50, q51, q52, q53, q54, q55, q56, q57, q58, q59, q60, q61, q62, q63, q64, q65, q66, q67, q68, q69, q70, q71, q72, q73, q74, q75, q76, q77, q78, q79, q80, q81, q82, q83, q84, q85, q86, q87, q88, q89, q90, q91, q92, q93, q94, q95, q96, q97, q98, q99, q100, q101, q102, q103, q104, q105, q106, q107, q108, q109, q110, q111, q112, q113, q114, q115, q116, q117, q118, q119, q120, q121, q122, q123, q124, q125, q126, q127, q128, q129, q130, q131, q132, q133, q134, q135, q136, q137, q138, q139, q140, q141, q142, q143, q144, q145, q146, q147, q148, q149, q150, rho, setAll, roAll, thaw]) <;> exact rfl)
    (eH : H.set id (.ro sh es) = H'' := by (try dsimp only [z0, z1, z2, z3, z4, z5, z6, z7, z8, z9, z10, z11, z12, z13, z14, z15, z16, y0, y1, y2, y3, y4, y5, y6, y7, y8, y9, y10, y11, y12, y13, y14, y15, Nat.reduceAdd, Nat.reduceSub, q0, q1, q2, q3, q4, q5, q6, q7, q8, q9, q10, q11, q12, q13, q14, q15, q16, q17, q18, q19, q20, q21, q22, q23, q24, q25, q26, q27, q28, q29, q30, q31, q32, q33, q34, q35, q36, q37, q38, q39, q40, q41, q42, q43, q44, q45, q46, q47, q48, q49, q50, q51, q52, q53, q54, q55, q56, q57, q58, q59, q60, q61, q62, q63, q64, q65, q66, q67, q68, q69, q70, q71, q72, q73, q74, q75, q76, q77, q78, q79, q80, q81, q82, q83, q84, q85, q86, q87, q88, q89, q90, q91, q92, q93, q94, q95, q96, q97, q98, q99, q100, q101, q102, q103, q104, q105, q106, q107, q108, q109, q110, q111, q112, q113, q114, q115, q116, q117, q118, q119, q120, q121, q122, q123, q124, q125, q126, q127, q128, q129, q130, q131, q132, q133, q134, q135, q136, q137, q138, q139, q140, q141, q142, q143, q144, q145, q146, q147, q148, q149, q150, rho, setAll, roAll, thaw]) <;> exact rfl) : NApp H id off len kk sh es xs bytes next := by
  subst ee eH; exact .ro h0 h1 hb hn
end
theorem NB.yes {b : Bool} {T E : Prop} (hb : b = true) (h : T) : NB b T E := by subst hb; exact h
theorem NB.no {b : Bool} {T E : Prop} (hb : b = false) (h : E) : NB b T E := by subst hb; exact h
/-- An answer that holds nothing owned. -/
theorem NRet.val {P : Program} {Γ : Tab P} {n0 : Nat} {rs : List ResultVar} {r : AV} {H' : List Blk} {fr : Fr} {H : List Blk}
    (h : ares Γ fr H rs fun as => cvsA n0 [] H as fun vs => cvH n0 [] H (List.range n0 ++ []) fun H'' => LeA (mkRes vs) r ∧ H' = H'') : NRet Γ n0 rs r H' fr H := .mk [] rfl h
end Go.Bv
namespace Go.Bv
open Go
section
variable {ρ : Nat → Nat} {C : Ctx} {p : Nat} (hρ : ∀ id, id < C.H.length → id ≠ p → ρ id = id)
include hρ
end
section
variable {P : Program} (Γ : Tab P) {n : Nat} {ops : Array Oper}
end
end Go.Bv
namespace Go.Bv
open Go
section
variable {P : Program} {Γ : Tab P} {n0 : Nat} {rs : List ResultVar} {H' : List Blk} {fr : Fr} {H : List Blk}
theorem NRet.boolE {q b : Bool} (h : b = q) (hn : NRet Γ n0 rs (.bool b) H' fr H) : NRet Γ n0 rs (.bool q) H' fr H := h ▸ hn
theorem NRet.intE {x y : Int} (h : x = y) (hn : NRet Γ n0 rs (i64 x) H' fr H) : NRet Γ n0 rs (i64 y) H' fr H := h ▸ hn
end
theorem setAll_same : ∀ (S : List Nat) (R H : List Blk), (∀ (i j : Nat) (b : Blk), S[i]? = some j → R[i]? = some b → H[j]? = some b) → setAll H S R = H
  | [], R, H, _ => by cases R <;> rfl
  | s :: S, [], H, _ => rfl
  | s :: S, b :: R, H, h => by
    have h0 := h 0 s b rfl rfl
    obtain ⟨hl, he⟩ := List.getElem?_eq_some_iff.1 h0
    rw [setAll, show H.set s b = H by rw [← he]; exact List.set_getElem_self hl]
    exact setAll_same S R H fun i j b hi hb => h (i + 1) j b (by simpa using hi) (by simpa using hb)
/-- A call that leaves the blocks that it looks at. -/
theorem NCall.subSame {P : Program} {f : FuncId} {args args0 : List AV} {H H0 : List Blk} {r r' : AV} {next : AV → List Blk → Prop} (S : List Nat) (h : ACalls P f args0 H0 r H0) (hn : next r' H) (hS : nodupB S = true := by exact rfl)
    (hH : S.map (fun j => H[j]?) = H0.map (fun b => some (b.rn (rho S H.length))) := by exact rfl) (ha : args = args0.map (AV.rnA (rho S H.length)) := by exact rfl) (er : r.rnT (rho S H.length) = r' := by (try dsimp only [AV.rnT, AV.rnA, AV.rnR, AV.rn1]) <;> exact rfl) : NCall P f args H next := by
  have hl : S.length = H0.length := by have := congrArg List.length hH; simpa using this
  have e1 : (H0.drop S.length) = [] := List.drop_eq_nil_of_le (by omega)
  have e2 : H0.take S.length = H0 := List.take_of_length_le (by omega)
  refine NCall.sub S h hS hH ha er (H'' := H) ?_ hn
  rw [e1, e2, List.map_nil, List.append_nil]
  refine setAll_same S _ H fun i j b hi hb => ?_
  have := congrArg (fun l => l[i]?) hH
  simp only [List.getElem?_map, hi, Option.map_some] at this
  rw [List.getElem?_map] at hb
  cases hq : H0[i]? with
  | none => rw [hq] at hb; simp at hb
  | some c =>
    rw [hq] at hb this
    simp only [Option.map_some, Option.some.injEq] at hb this
    rw [this, hb]
end Go.Bv
