/- Part of the lift: an abstract walk of the program's code, proved sound, and what it shows of this program. -/
import Derived.Test.YthkdjecnecpckaaPart3
namespace Go.Bv
open Go
def ints (l : List Int) : AV := .list .leaf (l.map i64)
/-- What a vector says of a node. -/
def vat (v : List Int) (i : Nat) : Int := max (v.getD i 0) 0
/-- What a vector says of a node that may be any number. -/
def vatI (v : List Int) (i : Int) : Int := if i < 0 then 0 else vat v i.toNat
def trim : List Int → List Int
  | [] => []
  | x :: r => match trim r with
    | [] => if x ≤ 0 then [] else [x]
    | y :: t => max x 0 :: y :: t
/-- The first i numbers at least 0. -/
def mx (w : List Int) (i : Nat) : List Int := (w.take i).map (max · 0) ++ w.drop i
/-- Two vectors, number by number. -/
def both (f : Int → Int → Int) (a b : List Int) : List Int := (List.range (max a.length b.length)).map fun i => f (vat a i) (vat b i)
def join (a b : List Int) : List Int := trim (both max a b)
def meet (a b : List Int) : List Int := trim (both min a b)
/-- Is a vector within another one? -/
def vwithin (a b : List Int) : Bool := (List.range a.length).all fun i => decide (vat a i ≤ vat b i)
/-- A vector with a number for a node. -/
def vset (v : List Int) (node : Nat) (n : Int) : List Int := (v ++ List.replicate (node + 1 - v.length) 0).set node n
/-- The first i numbers of two vectors, laid together; noughts behind. -/
def bs (f : Int → Int → Int) (a b : List Int) (i : Nat) : List Int := ((List.range i).map fun k => f (vat a k) (vat b k)) ++ List.replicate (max a.length b.length - i) 0
end Go.Bv
