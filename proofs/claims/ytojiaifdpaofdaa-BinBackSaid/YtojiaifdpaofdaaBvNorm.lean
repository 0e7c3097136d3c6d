/- Part of the lift: an abstract walk of the program's code, proved sound, and what it shows of this program. -/
import Derived.Test.YtojiaifdpaofdaaBvTy
namespace Go.Bv
open Go

-- knots whose outcome is laid down plainly
theorem NCall.atN {P : Program} {f : FuncId} {args : List AV} {H H' H'' : List Blk} {r r' : AV} {next : AV → List Blk → Prop} (h : ACalls P f args H r H') (er : r = r') (eH : H' = H'') (hn : next r' H'') : NCall P f args H next := by
  subst er eH; exact ⟨r, H', h, hn⟩
theorem NCall.frzN {P : Program} {f : FuncId} {args args' : List AV} {H H'' : List Blk} {r : AV} {next : AV → List Blk → Prop} (id : Nat) (h : ACalls P f args' [] r []) (hl : LentAs H (· = id) args args') (ha : args'.all AV.noOwn = true) (hr : r.shT (H.set id .dead).length = r) (eH : H.set id .dead = H'') (hn : next r H'') : NCall P f args H next := by
  subst eH; exact NCall.frz id h hl ha hr hn
theorem NApp.enddN {H H'' : List Blk} {id off len : Nat} {kk : RK} {sh : Sh} {es xs es' : List AV} {bytes n l : Nat} {next : AV → List Blk → Prop} (h0 : off = 0) (h1 : len = es.length) (hb : (es.length + xs.length) * bytes ≤ 2 ^ 46)
    (en : H.length = n) (ee : es ++ xs = es') (el : (es ++ xs).length = l) (eH : H.set id .dead ++ [.row kk sh es'] = H'') (hn : next (.own n 0 l) H'') : NApp H id off len kk sh es xs bytes next := by
  subst en ee el eH; exact .endd h0 h1 hb hn
theorem NApp.inplN {H H'' : List Blk} {id off len : Nat} {kk : RK} {sh : Sh} {es xs es' : List AV} {bytes l : Nat} {next : AV → List Blk → Prop} (h1 : off + len + xs.length ≤ es.length) (el : len + xs.length = l)
    (ee : es.take (off + len) ++ (xs ++ es.drop (off + len + xs.length)) = es') (eH : H.set id (.row kk sh es') = H'') (hn : next (.own id off l) H'') : NApp H id off len kk sh es xs bytes next := by
  subst ee el eH; exact .inpl h1 hn

end Go.Bv
