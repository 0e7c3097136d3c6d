/- Part of the lift: an abstract walk of the program's code, proved sound, and what it shows of this program. -/
import Derived.Test.YtkehoabgejdpgaaBvAuto
import Derived.Test.YtkehoabgejdpgaaBvDraw2
namespace Go.Bv
open Go

section
variable {P : Program} {Γ : Tab P} {n0 : Nat} {rs : List ResultVar} {H' : List Blk} {fr : Fr} {H : List Blk}
theorem NRet.boolE {q b : Bool} (h : b = q) (hn : NRet Γ n0 rs (.bool b) H' fr H) : NRet Γ n0 rs (.bool q) H' fr H := h ▸ hn
theorem NRet.intE {x y : Int} (h : x = y) (hn : NRet Γ n0 rs (i64 x) H' fr H) : NRet Γ n0 rs (i64 y) H' fr H := h ▸ hn
theorem NRet.valE {a b : AV} (h : a = b) (hn : NRet Γ n0 rs a H' fr H) : NRet Γ n0 rs b H' fr H := h ▸ hn
end
theorem ACalls.res {P : Program} {f : FuncId} {args : List AV} {H H' : List Blk} {r r' : AV} (h : ACalls P f args H r H') (e : r = r') : ACalls P f args H r' H' := e ▸ h
end Go.Bv
