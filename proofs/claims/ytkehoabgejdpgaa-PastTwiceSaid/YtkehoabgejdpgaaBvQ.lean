/- Part of the lift: an abstract walk of the program's code, proved sound, and what it shows of this program. -/
import Derived.Test.YtkehoabgejdpgaaBvSub
namespace Go.Bv
open Go
section
variable {α β : Type} {f : α → β} {a b : α} {l r : List α} {n : Nat}
theorem z0 : List.map f (a :: l) = f a :: List.map f l := rfl
theorem z1 : List.map f [] = [] := rfl
theorem z2 : (a :: l).length = l.length + 1 := rfl
theorem z3 : ([] : List α).length = 0 := rfl
theorem z4 : a :: l ++ r = a :: (l ++ r) := rfl
theorem z5 : [] ++ r = r := rfl
theorem z6 : (a :: l).set 0 b = b :: l := rfl
theorem z7 : (a :: l).set (n + 1) b = a :: l.set n b := rfl
theorem z8 : (a :: l)[0]? = some a := rfl
theorem z9 : (a :: l)[n + 1]? = l[n]? := rfl
theorem z10 : ([] : List α)[n]? = none := rfl
theorem z11 : (a :: l).take (n + 1) = a :: l.take n := rfl
theorem z12 : l.take 0 = [] := rfl
theorem z13 : (a :: l).drop (n + 1) = l.drop n := rfl
theorem z14 : l.drop 0 = l := rfl
theorem z15 : List.replicate (n + 1) a = a :: List.replicate n a := rfl
theorem z16 : List.replicate 0 a = [] := rfl
theorem z17 : ([] : List α).take n = [] := by cases n <;> rfl
theorem z18 : ([] : List α).drop n = [] := by cases n <;> rfl
theorem td0 (l : List α) : List.take l.length (List.drop 0 l) = l := List.take_length
theorem tl0 (l : List α) : List.take l.length l = l := List.take_length
theorem tlm (f : α → β) (l : List α) : List.take l.length (List.map f l) = List.map f l := List.take_of_length_le (by simp)
theorem tdm (f : α → β) (l : List α) : List.take l.length (List.drop 0 (List.map f l)) = List.map f l := List.take_of_length_le (by simp)
theorem mapApp (f : α → β) (l r : List α) : List.map f l ++ List.map f r = List.map f (l ++ r) := List.map_append.symm
end
-- what renaming, shifting and thawing come to, constructor by constructor
theorem q0 {ν : Nat} {b : Bool} : AV.sh1 ν (.bool b : AV) = .bool b := rfl
theorem q1 {ν : Nat} {k : IntKind} {n : Int} : AV.sh1 ν (.int k n : AV) = .int k n := rfl
theorem q2 {ν : Nat} {s : List UInt8} : AV.sh1 ν (.str s : AV) = .str s := rfl
theorem q3 {ν : Nat}  : AV.sh1 ν (.nils : AV) = .nils := rfl
theorem q4 {ν : Nat}  : AV.sh1 ν (.nilfn : AV) = .nilfn := rfl
theorem q5 {ν : Nat} {sh : Sh} {l : List AV} : AV.sh1 ν (.list sh l : AV) = .list sh l := rfl
theorem q6 {ν : Nat} {sh : Sh} {x : AV} {o : Nat} : AV.sh1 ν (.at sh x o : AV) = .at sh x o := rfl
theorem q7 {ν : Nat} {id : Nat} {off : Nat} {len : Nat} : AV.sh1 ν (.own id off len : AV) = .own (id + ν) off len := rfl
theorem q8 {ν : Nat} {id : Nat} {i : Nat} {o : Nat} : AV.sh1 ν (.ptr id i o : AV) = .ptr (id + ν) i o := rfl
theorem q9 {ν : Nat} {id : Nat} : AV.sh1 ν (.map id : AV) = .map (id + ν) := rfl
theorem q10 {ν : Nat} {f : FuncId} {caps : List AV} : AV.sh1 ν (.fn f caps : AV) = .fn f caps := rfl
theorem q11 {ν : Nat} {cs : List AV} : AV.sh1 ν (.agg cs : AV) = .agg cs := rfl
theorem q12 {ν : Nat} {vs : List AV} : AV.sh1 ν (.tup vs : AV) = .tup vs := rfl
theorem q13 {ν : Nat}  : AV.sh1 ν (.undef : AV) = .undef := rfl
theorem q14 {ν : Nat} {b : Bool} : AV.shR ν (.bool b : AV) = .bool b := rfl
theorem q15 {ν : Nat} {k : IntKind} {n : Int} : AV.shR ν (.int k n : AV) = .int k n := rfl
theorem q16 {ν : Nat} {s : List UInt8} : AV.shR ν (.str s : AV) = .str s := rfl
theorem q17 {ν : Nat}  : AV.shR ν (.nils : AV) = .nils := rfl
theorem q18 {ν : Nat}  : AV.shR ν (.nilfn : AV) = .nilfn := rfl
theorem q19 {ν : Nat} {sh : Sh} {l : List AV} : AV.shR ν (.list sh l : AV) = .list sh l := rfl
theorem q20 {ν : Nat} {sh : Sh} {x : AV} {o : Nat} : AV.shR ν (.at sh x o : AV) = .at sh x o := rfl
theorem q21 {ν : Nat} {id : Nat} {off : Nat} {len : Nat} : AV.shR ν (.own id off len : AV) = .own (id + ν) off len := rfl
theorem q22 {ν : Nat} {id : Nat} {i : Nat} {o : Nat} : AV.shR ν (.ptr id i o : AV) = .ptr (id + ν) i o := rfl
theorem q23 {ν : Nat} {id : Nat} : AV.shR ν (.map id : AV) = .map (id + ν) := rfl
theorem q24 {ν : Nat} {f : FuncId} {caps : List AV} : AV.shR ν (.fn f caps : AV) = .fn f (caps.map (AV.sh1 ν)) := rfl
theorem q25 {ν : Nat} {cs : List AV} : AV.shR ν (.agg cs : AV) = .agg cs := rfl
theorem q26 {ν : Nat} {vs : List AV} : AV.shR ν (.tup vs : AV) = .tup vs := rfl
theorem q27 {ν : Nat}  : AV.shR ν (.undef : AV) = .undef := rfl
theorem q28 {ν : Nat} {b : Bool} : AV.shA ν (.bool b : AV) = .bool b := rfl
theorem q29 {ν : Nat} {k : IntKind} {n : Int} : AV.shA ν (.int k n : AV) = .int k n := rfl
theorem q30 {ν : Nat} {s : List UInt8} : AV.shA ν (.str s : AV) = .str s := rfl
theorem q31 {ν : Nat}  : AV.shA ν (.nils : AV) = .nils := rfl
theorem q32 {ν : Nat}  : AV.shA ν (.nilfn : AV) = .nilfn := rfl
theorem q33 {ν : Nat} {sh : Sh} {l : List AV} : AV.shA ν (.list sh l : AV) = .list sh l := rfl
theorem q34 {ν : Nat} {sh : Sh} {x : AV} {o : Nat} : AV.shA ν (.at sh x o : AV) = .at sh x o := rfl
theorem q35 {ν : Nat} {id : Nat} {off : Nat} {len : Nat} : AV.shA ν (.own id off len : AV) = .own (id + ν) off len := rfl
theorem q36 {ν : Nat} {id : Nat} {i : Nat} {o : Nat} : AV.shA ν (.ptr id i o : AV) = .ptr (id + ν) i o := rfl
theorem q37 {ν : Nat} {id : Nat} : AV.shA ν (.map id : AV) = .map (id + ν) := rfl
theorem q38 {ν : Nat} {f : FuncId} {caps : List AV} : AV.shA ν (.fn f caps : AV) = .fn f (caps.map (AV.sh1 ν)) := rfl
theorem q39 {ν : Nat} {cs : List AV} : AV.shA ν (.agg cs : AV) = .agg (cs.map (AV.shR ν)) := rfl
theorem q40 {ν : Nat} {vs : List AV} : AV.shA ν (.tup vs : AV) = .tup vs := rfl
theorem q41 {ν : Nat}  : AV.shA ν (.undef : AV) = .undef := rfl
theorem q42 {ν : Nat} {b : Bool} : AV.shT ν (.bool b : AV) = .bool b := rfl
theorem q43 {ν : Nat} {k : IntKind} {n : Int} : AV.shT ν (.int k n : AV) = .int k n := rfl
theorem q44 {ν : Nat} {s : List UInt8} : AV.shT ν (.str s : AV) = .str s := rfl
theorem q45 {ν : Nat}  : AV.shT ν (.nils : AV) = .nils := rfl
theorem q46 {ν : Nat}  : AV.shT ν (.nilfn : AV) = .nilfn := rfl
theorem q47 {ν : Nat} {sh : Sh} {l : List AV} : AV.shT ν (.list sh l : AV) = .list sh l := rfl
theorem q48 {ν : Nat} {sh : Sh} {x : AV} {o : Nat} : AV.shT ν (.at sh x o : AV) = .at sh x o := rfl
theorem q49 {ν : Nat} {id : Nat} {off : Nat} {len : Nat} : AV.shT ν (.own id off len : AV) = .own (id + ν) off len := rfl
theorem q50 {ν : Nat} {id : Nat} {i : Nat} {o : Nat} : AV.shT ν (.ptr id i o : AV) = .ptr (id + ν) i o := rfl
theorem q51 {ν : Nat} {id : Nat} : AV.shT ν (.map id : AV) = .map (id + ν) := rfl
theorem q52 {ν : Nat} {f : FuncId} {caps : List AV} : AV.shT ν (.fn f caps : AV) = .fn f (caps.map (AV.sh1 ν)) := rfl
theorem q53 {ν : Nat} {cs : List AV} : AV.shT ν (.agg cs : AV) = .agg (cs.map (AV.shR ν)) := rfl
theorem q54 {ν : Nat} {vs : List AV} : AV.shT ν (.tup vs : AV) = .tup (vs.map (AV.shA ν)) := rfl
theorem q55 {ν : Nat}  : AV.shT ν (.undef : AV) = .undef := rfl
theorem q56 {ν : Nat → Nat} {b : Bool} : AV.rn1 ν (.bool b : AV) = .bool b := rfl
theorem q57 {ν : Nat → Nat} {k : IntKind} {n : Int} : AV.rn1 ν (.int k n : AV) = .int k n := rfl
theorem q58 {ν : Nat → Nat} {s : List UInt8} : AV.rn1 ν (.str s : AV) = .str s := rfl
theorem q59 {ν : Nat → Nat}  : AV.rn1 ν (.nils : AV) = .nils := rfl
theorem q60 {ν : Nat → Nat}  : AV.rn1 ν (.nilfn : AV) = .nilfn := rfl
theorem q61 {ν : Nat → Nat} {sh : Sh} {l : List AV} : AV.rn1 ν (.list sh l : AV) = .list sh l := rfl
theorem q62 {ν : Nat → Nat} {sh : Sh} {x : AV} {o : Nat} : AV.rn1 ν (.at sh x o : AV) = .at sh x o := rfl
theorem q63 {ν : Nat → Nat} {id : Nat} {off : Nat} {len : Nat} : AV.rn1 ν (.own id off len : AV) = .own (ν id) off len := rfl
theorem q64 {ν : Nat → Nat} {id : Nat} {i : Nat} {o : Nat} : AV.rn1 ν (.ptr id i o : AV) = .ptr (ν id) i o := rfl
theorem q65 {ν : Nat → Nat} {id : Nat} : AV.rn1 ν (.map id : AV) = .map (ν id) := rfl
theorem q66 {ν : Nat → Nat} {f : FuncId} {caps : List AV} : AV.rn1 ν (.fn f caps : AV) = .fn f caps := rfl
theorem q67 {ν : Nat → Nat} {cs : List AV} : AV.rn1 ν (.agg cs : AV) = .agg cs := rfl
theorem q68 {ν : Nat → Nat} {vs : List AV} : AV.rn1 ν (.tup vs : AV) = .tup vs := rfl
theorem q69 {ν : Nat → Nat}  : AV.rn1 ν (.undef : AV) = .undef := rfl
theorem q70 {ν : Nat → Nat} {b : Bool} : AV.rnR ν (.bool b : AV) = .bool b := rfl
theorem q71 {ν : Nat → Nat} {k : IntKind} {n : Int} : AV.rnR ν (.int k n : AV) = .int k n := rfl
theorem q72 {ν : Nat → Nat} {s : List UInt8} : AV.rnR ν (.str s : AV) = .str s := rfl
theorem q73 {ν : Nat → Nat}  : AV.rnR ν (.nils : AV) = .nils := rfl
theorem q74 {ν : Nat → Nat}  : AV.rnR ν (.nilfn : AV) = .nilfn := rfl
theorem q75 {ν : Nat → Nat} {sh : Sh} {l : List AV} : AV.rnR ν (.list sh l : AV) = .list sh l := rfl
theorem q76 {ν : Nat → Nat} {sh : Sh} {x : AV} {o : Nat} : AV.rnR ν (.at sh x o : AV) = .at sh x o := rfl
theorem q77 {ν : Nat → Nat} {id : Nat} {off : Nat} {len : Nat} : AV.rnR ν (.own id off len : AV) = .own (ν id) off len := rfl
theorem q78 {ν : Nat → Nat} {id : Nat} {i : Nat} {o : Nat} : AV.rnR ν (.ptr id i o : AV) = .ptr (ν id) i o := rfl
theorem q79 {ν : Nat → Nat} {id : Nat} : AV.rnR ν (.map id : AV) = .map (ν id) := rfl
theorem q80 {ν : Nat → Nat} {f : FuncId} {caps : List AV} : AV.rnR ν (.fn f caps : AV) = .fn f (caps.map (AV.rn1 ν)) := rfl
theorem q81 {ν : Nat → Nat} {cs : List AV} : AV.rnR ν (.agg cs : AV) = .agg cs := rfl
theorem q82 {ν : Nat → Nat} {vs : List AV} : AV.rnR ν (.tup vs : AV) = .tup vs := rfl
theorem q83 {ν : Nat → Nat}  : AV.rnR ν (.undef : AV) = .undef := rfl
theorem q84 {ν : Nat → Nat} {b : Bool} : AV.rnA ν (.bool b : AV) = .bool b := rfl
theorem q85 {ν : Nat → Nat} {k : IntKind} {n : Int} : AV.rnA ν (.int k n : AV) = .int k n := rfl
theorem q86 {ν : Nat → Nat} {s : List UInt8} : AV.rnA ν (.str s : AV) = .str s := rfl
theorem q87 {ν : Nat → Nat}  : AV.rnA ν (.nils : AV) = .nils := rfl
theorem q88 {ν : Nat → Nat}  : AV.rnA ν (.nilfn : AV) = .nilfn := rfl
theorem q89 {ν : Nat → Nat} {sh : Sh} {l : List AV} : AV.rnA ν (.list sh l : AV) = .list sh l := rfl
theorem q90 {ν : Nat → Nat} {sh : Sh} {x : AV} {o : Nat} : AV.rnA ν (.at sh x o : AV) = .at sh x o := rfl
theorem q91 {ν : Nat → Nat} {id : Nat} {off : Nat} {len : Nat} : AV.rnA ν (.own id off len : AV) = .own (ν id) off len := rfl
theorem q92 {ν : Nat → Nat} {id : Nat} {i : Nat} {o : Nat} : AV.rnA ν (.ptr id i o : AV) = .ptr (ν id) i o := rfl
theorem q93 {ν : Nat → Nat} {id : Nat} : AV.rnA ν (.map id : AV) = .map (ν id) := rfl
theorem q94 {ν : Nat → Nat} {f : FuncId} {caps : List AV} : AV.rnA ν (.fn f caps : AV) = .fn f (caps.map (AV.rn1 ν)) := rfl
theorem q95 {ν : Nat → Nat} {cs : List AV} : AV.rnA ν (.agg cs : AV) = .agg (cs.map (AV.rnR ν)) := rfl
theorem q96 {ν : Nat → Nat} {vs : List AV} : AV.rnA ν (.tup vs : AV) = .tup vs := rfl
theorem q97 {ν : Nat → Nat}  : AV.rnA ν (.undef : AV) = .undef := rfl
theorem q98 {ν : Nat → Nat} {b : Bool} : AV.rnT ν (.bool b : AV) = .bool b := rfl
theorem q99 {ν : Nat → Nat} {k : IntKind} {n : Int} : AV.rnT ν (.int k n : AV) = .int k n := rfl
theorem q100 {ν : Nat → Nat} {s : List UInt8} : AV.rnT ν (.str s : AV) = .str s := rfl
theorem q101 {ν : Nat → Nat}  : AV.rnT ν (.nils : AV) = .nils := rfl
theorem q102 {ν : Nat → Nat}  : AV.rnT ν (.nilfn : AV) = .nilfn := rfl
theorem q103 {ν : Nat → Nat} {sh : Sh} {l : List AV} : AV.rnT ν (.list sh l : AV) = .list sh l := rfl
theorem q104 {ν : Nat → Nat} {sh : Sh} {x : AV} {o : Nat} : AV.rnT ν (.at sh x o : AV) = .at sh x o := rfl
theorem q105 {ν : Nat → Nat} {id : Nat} {off : Nat} {len : Nat} : AV.rnT ν (.own id off len : AV) = .own (ν id) off len := rfl
theorem q106 {ν : Nat → Nat} {id : Nat} {i : Nat} {o : Nat} : AV.rnT ν (.ptr id i o : AV) = .ptr (ν id) i o := rfl
theorem q107 {ν : Nat → Nat} {id : Nat} : AV.rnT ν (.map id : AV) = .map (ν id) := rfl
theorem q108 {ν : Nat → Nat} {f : FuncId} {caps : List AV} : AV.rnT ν (.fn f caps : AV) = .fn f (caps.map (AV.rn1 ν)) := rfl
theorem q109 {ν : Nat → Nat} {cs : List AV} : AV.rnT ν (.agg cs : AV) = .agg (cs.map (AV.rnR ν)) := rfl
theorem q110 {ν : Nat → Nat} {vs : List AV} : AV.rnT ν (.tup vs : AV) = .tup (vs.map (AV.rnA ν)) := rfl
theorem q111 {ν : Nat → Nat}  : AV.rnT ν (.undef : AV) = .undef := rfl
theorem q112 {ν : Nat} : Blk.shift ν (.dead : Blk) = .dead := rfl
theorem q113 {ν : Nat} {sh : Sh} {es : List AV} : Blk.shift ν (.row .row sh es : Blk) = .row .row sh es := rfl
theorem q114 {ν : Nat} {sh : Sh} {es : List AV} : Blk.shift ν (.row .vrow sh es : Blk) = .row .vrow sh es := rfl
theorem q115 {ν : Nat} {sh : Sh} {es : List AV} : Blk.shift ν (.row .box sh es : Blk) = .row .box sh (es.map (AV.shA ν)) := rfl
theorem q116 {ν : Nat} {sh : Sh} {es : List AV} : Blk.shift ν (.ro sh es : Blk) = .ro sh es := rfl
theorem q117 {ν : Nat} {es : List (AV × AV)} : Blk.shift ν (.map es : Blk) = .map es := rfl
theorem q118 {ν : Nat → Nat} : Blk.rn ν (.dead : Blk) = .dead := rfl
theorem q119 {ν : Nat → Nat} {sh : Sh} {es : List AV} : Blk.rn ν (.row .row sh es : Blk) = .row .row sh es := rfl
theorem q120 {ν : Nat → Nat} {sh : Sh} {es : List AV} : Blk.rn ν (.row .vrow sh es : Blk) = .row .vrow sh es := rfl
theorem q121 {ν : Nat → Nat} {sh : Sh} {es : List AV} : Blk.rn ν (.row .box sh es : Blk) = .row .box sh (es.map (AV.rnA ν)) := rfl
theorem q122 {ν : Nat → Nat} {sh : Sh} {es : List AV} : Blk.rn ν (.ro sh es : Blk) = .ro sh es := rfl
theorem q123 {ν : Nat → Nat} {es : List (AV × AV)} : Blk.rn ν (.map es : Blk) = .map es := rfl
theorem q124 {H : List Blk} {b : Bool} : thaw H (.bool b : AV) = .bool b := rfl
theorem q125 {H : List Blk} {b : Bool} : thawA H (.bool b : AV) = .bool b := rfl
theorem q126 {H : List Blk} {k : IntKind} {n : Int} : thaw H (.int k n : AV) = .int k n := rfl
theorem q127 {H : List Blk} {k : IntKind} {n : Int} : thawA H (.int k n : AV) = .int k n := rfl
theorem q128 {H : List Blk} {s : List UInt8} : thaw H (.str s : AV) = .str s := rfl
theorem q129 {H : List Blk} {s : List UInt8} : thawA H (.str s : AV) = .str s := rfl
theorem q130 {H : List Blk}  : thaw H (.nils : AV) = .nils := rfl
theorem q131 {H : List Blk}  : thawA H (.nils : AV) = .nils := rfl
theorem q132 {H : List Blk}  : thaw H (.nilfn : AV) = .nilfn := rfl
theorem q133 {H : List Blk}  : thawA H (.nilfn : AV) = .nilfn := rfl
theorem q134 {H : List Blk} {sh : Sh} {l : List AV} : thaw H (.list sh l : AV) = .list sh l := rfl
theorem q135 {H : List Blk} {sh : Sh} {l : List AV} : thawA H (.list sh l : AV) = .list sh l := rfl
theorem q136 {H : List Blk} {sh : Sh} {x : AV} {o : Nat} : thaw H (.at sh x o : AV) = .at sh x o := rfl
theorem q137 {H : List Blk} {sh : Sh} {x : AV} {o : Nat} : thawA H (.at sh x o : AV) = .at sh x o := rfl
theorem q138 {H : List Blk} {id : Nat} {i : Nat} {o : Nat} : thaw H (.ptr id i o : AV) = .ptr id i o := rfl
theorem q139 {H : List Blk} {id : Nat} {i : Nat} {o : Nat} : thawA H (.ptr id i o : AV) = .ptr id i o := rfl
theorem q140 {H : List Blk} {id : Nat} : thaw H (.map id : AV) = .map id := rfl
theorem q141 {H : List Blk} {id : Nat} : thawA H (.map id : AV) = .map id := rfl
theorem q142 {H : List Blk} {f : FuncId} {caps : List AV} : thaw H (.fn f caps : AV) = .fn f caps := rfl
theorem q143 {H : List Blk} {f : FuncId} {caps : List AV} : thawA H (.fn f caps : AV) = .fn f caps := rfl
theorem q144 {H : List Blk} {cs : List AV} : thaw H (.agg cs : AV) = .agg cs := rfl
theorem q145 {H : List Blk} {cs : List AV} : thawA H (.agg cs : AV) = .agg (cs.map (thaw H)) := rfl
theorem q146 {H : List Blk} {vs : List AV} : thaw H (.tup vs : AV) = .tup vs := rfl
theorem q147 {H : List Blk} {vs : List AV} : thawA H (.tup vs : AV) = .tup vs := rfl
theorem q148 {H : List Blk}  : thaw H (.undef : AV) = .undef := rfl
theorem q149 {H : List Blk}  : thawA H (.undef : AV) = .undef := rfl
theorem q150 {H : List Blk} {id off len : Nat} : thawA H (.own id off len) = thaw H (.own id off len) := rfl
theorem y0 {cs : List AV} {o : Nat} : setCells cs o [] = cs := rfl
theorem y1 {cs r : List AV} {o : Nat} {x : AV} : setCells cs o (x :: r) = setCells (cs.set o x) (o + 1) r := rfl
theorem y2 {cs : List AV} : AV.cells (.agg cs) = cs := rfl
theorem y3 {b : Bool} : AV.cells (.bool b) = [.bool b] := rfl
theorem y4 {k : IntKind} {n : Int} : AV.cells (.int k n) = [.int k n] := rfl
theorem y5 {s : List UInt8} : AV.cells (.str s) = [.str s] := rfl
theorem y6  : AV.cells (.nils) = [.nils] := rfl
theorem y7  : AV.cells (.nilfn) = [.nilfn] := rfl
theorem y8 {sh : Sh} {l : List AV} : AV.cells (.list sh l) = [.list sh l] := rfl
theorem y9 {sh : Sh} {x : AV} {o : Nat} : AV.cells (.at sh x o) = [.at sh x o] := rfl
theorem y10 {id : Nat} {off : Nat} {len : Nat} : AV.cells (.own id off len) = [.own id off len] := rfl
theorem y11 {id : Nat} {i : Nat} {o : Nat} : AV.cells (.ptr id i o) = [.ptr id i o] := rfl
theorem y12 {id : Nat} : AV.cells (.map id) = [.map id] := rfl
theorem y13 {f : FuncId} {caps : List AV} : AV.cells (.fn f caps) = [.fn f caps] := rfl
theorem y14 {vs : List AV} : AV.cells (.tup vs) = [.tup vs] := rfl
theorem y15  : AV.cells (.undef) = [.undef] := rfl
end Go.Bv
