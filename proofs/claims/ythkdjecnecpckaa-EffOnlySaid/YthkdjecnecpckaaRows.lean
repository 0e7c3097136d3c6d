/-
  No cell of these rows narrows 'for every input' (looked for: loops, veiled, ifaces, maps, wideKeys, modest, calm, conditions, laid).
  DERIVED. THE GIVEN ROWS OF THIS SEAT. 7 by the template 'for every input the law returns true; each argument reads behind the call as it read before'; 0 by the template 'total and deterministic' (their statements: YthkdjecnecpckaaTotals.lean).
  GIVEN WITH THE SEED: the statements are not yours to turn. If you find one false, say at which input.
  Laid BY PROGRAM, IN A SANDBOX (cutbox-rows.mjs): the forced cells as the released guide's own fill.sh prints them over the translation 12b4dd0924374e83… (all of the seat's roots in one cut). By AI agents, Wed Nov 11 2026. No macro, syntax, notation, axiom, sorry.
-/
import Derived.Test.YthkdjecnecpckaaChecked
import GoSem.Claim
import GoSem.ClaimJoined
import GoSem.ClaimMapViews
import Derived.JoinedTies
import Derived.KernelRfl
namespace Go.Proofs.Ythkdjecnecpckaa
/- THE CELL 'sum', in the pinned program and in every row, IS THE sha256 OF THE DUMP (.gsa) THAT YthkdjecnecpckaaProg.lean LOADS. Nothing in Lean hashes anything: it is a label: what it is worth is what the hold of that sum in a sandbox is worth. -/
noncomputable def Try.pinned : Pinned := { name := "ythkdjecnecpckaa", sum := "12b4dd0924374e836d055c070e3b4f0f1c2eb985b951f081394de7b447ce43b7", checked := Try.checked }
namespace Rows
def none {H : Type} : Left H := { results := [], args := [] }

/-- 'butterylaw13.TxnBack': WHATEVER THE INPUT: true; the input reads as it did. -/
def txnBackSpec : ChangeSpec := { name := "txnBack", fn := fun _ => fun
  | [d1, d2, d3] => { results := [.lit (.bool true)], args := [d1, d2, d3] }
  | _ => none }
def txnBackRow : OpenClaim := { program := "ythkdjecnecpckaa", sum := "12b4dd0924374e836d055c070e3b4f0f1c2eb985b951f081394de7b447ce43b7", func := "buttery/butterylaw13.TxnBack", spec := "txnBack", unfollowed := true, recurses := true, plainKeys := false, apart := false }
def TxnBackSaid : Prop := txnBackRow.holds Try.pinned (OpenSpec.ofChange txnBackSpec)

/-- ITS FALSE NEIGHBOUR: 'it returns false'. Refute it at one input. -/
def txnBackWrong : ChangeSpec := { name := "txnBack", fn := fun _ => fun
  | [d1, d2, d3] => { results := [.lit (.bool false)], args := [d1, d2, d3] }
  | _ => none }
def TxnBackWrongFalsely : Prop := txnBackRow.holds Try.pinned (OpenSpec.ofChange txnBackWrong)

/-- 'butterylaw13.TxnCut': WHATEVER THE INPUT: true; the input reads as it did. -/
def txnCutSpec : ChangeSpec := { name := "txnCut", fn := fun _ => fun
  | [d1, d2] => { results := [.lit (.bool true)], args := [d1, d2] }
  | _ => none }
def txnCutRow : OpenClaim := { program := "ythkdjecnecpckaa", sum := "12b4dd0924374e836d055c070e3b4f0f1c2eb985b951f081394de7b447ce43b7", func := "buttery/butterylaw13.TxnCut", spec := "txnCut", unfollowed := true, recurses := true, plainKeys := false, apart := false }
def TxnCutSaid : Prop := txnCutRow.holds Try.pinned (OpenSpec.ofChange txnCutSpec)

/-- ITS FALSE NEIGHBOUR: 'it returns false'. Refute it at one input. -/
def txnCutWrong : ChangeSpec := { name := "txnCut", fn := fun _ => fun
  | [d1, d2] => { results := [.lit (.bool false)], args := [d1, d2] }
  | _ => none }
def TxnCutWrongFalsely : Prop := txnCutRow.holds Try.pinned (OpenSpec.ofChange txnCutWrong)

/-- 'butterylaw13.TxnOnly': WHATEVER THE INPUT: true; the input reads as it did. -/
def txnOnlySpec : ChangeSpec := { name := "txnOnly", fn := fun _ => fun
  | [d1, d2, d3] => { results := [.lit (.bool true)], args := [d1, d2, d3] }
  | _ => none }
def txnOnlyRow : OpenClaim := { program := "ythkdjecnecpckaa", sum := "12b4dd0924374e836d055c070e3b4f0f1c2eb985b951f081394de7b447ce43b7", func := "buttery/butterylaw13.TxnOnly", spec := "txnOnly", unfollowed := true, recurses := true, plainKeys := false, apart := false }
def TxnOnlySaid : Prop := txnOnlyRow.holds Try.pinned (OpenSpec.ofChange txnOnlySpec)

/-- ITS FALSE NEIGHBOUR: 'it returns false'. Refute it at one input. -/
def txnOnlyWrong : ChangeSpec := { name := "txnOnly", fn := fun _ => fun
  | [d1, d2, d3] => { results := [.lit (.bool false)], args := [d1, d2, d3] }
  | _ => none }
def TxnOnlyWrongFalsely : Prop := txnOnlyRow.holds Try.pinned (OpenSpec.ofChange txnOnlyWrong)

/-- 'butterylaw13.TxnAll': WHATEVER THE INPUT: true; the input reads as it did. -/
def txnAllSpec : ChangeSpec := { name := "txnAll", fn := fun _ => fun
  | [d1, d2, d3] => { results := [.lit (.bool true)], args := [d1, d2, d3] }
  | _ => none }
def txnAllRow : OpenClaim := { program := "ythkdjecnecpckaa", sum := "12b4dd0924374e836d055c070e3b4f0f1c2eb985b951f081394de7b447ce43b7", func := "buttery/butterylaw13.TxnAll", spec := "txnAll", unfollowed := true, recurses := true, plainKeys := false, apart := false }
def TxnAllSaid : Prop := txnAllRow.holds Try.pinned (OpenSpec.ofChange txnAllSpec)

/-- ITS FALSE NEIGHBOUR: 'it returns false'. Refute it at one input. -/
def txnAllWrong : ChangeSpec := { name := "txnAll", fn := fun _ => fun
  | [d1, d2, d3] => { results := [.lit (.bool false)], args := [d1, d2, d3] }
  | _ => none }
def TxnAllWrongFalsely : Prop := txnAllRow.holds Try.pinned (OpenSpec.ofChange txnAllWrong)

/-- 'butterylaw10.EffConcurrent': WHATEVER THE INPUT: true; the input reads as it did. -/
def effConcurrentSpec : ChangeSpec := { name := "effConcurrent", fn := fun _ => fun
  | [d1, d2, d3, d4, d5, d6, d7] => { results := [.lit (.bool true)], args := [d1, d2, d3, d4, d5, d6, d7] }
  | _ => none }
def effConcurrentRow : OpenClaim := { program := "ythkdjecnecpckaa", sum := "12b4dd0924374e836d055c070e3b4f0f1c2eb985b951f081394de7b447ce43b7", func := "buttery/butterylaw10.EffConcurrent", spec := "effConcurrent", unfollowed := true, recurses := true, plainKeys := false, apart := false }
def EffConcurrentSaid : Prop := effConcurrentRow.holds Try.pinned (OpenSpec.ofChange effConcurrentSpec)

/-- ITS FALSE NEIGHBOUR: 'it returns false'. Refute it at one input. -/
def effConcurrentWrong : ChangeSpec := { name := "effConcurrent", fn := fun _ => fun
  | [d1, d2, d3, d4, d5, d6, d7] => { results := [.lit (.bool false)], args := [d1, d2, d3, d4, d5, d6, d7] }
  | _ => none }
def EffConcurrentWrongFalsely : Prop := effConcurrentRow.holds Try.pinned (OpenSpec.ofChange effConcurrentWrong)

/-- 'butterylaw10.EffAgain': WHATEVER THE INPUT: true; the input reads as it did. -/
def effAgainSpec : ChangeSpec := { name := "effAgain", fn := fun _ => fun
  | [d1, d2, d3, d4] => { results := [.lit (.bool true)], args := [d1, d2, d3, d4] }
  | _ => none }
def effAgainRow : OpenClaim := { program := "ythkdjecnecpckaa", sum := "12b4dd0924374e836d055c070e3b4f0f1c2eb985b951f081394de7b447ce43b7", func := "buttery/butterylaw10.EffAgain", spec := "effAgain", unfollowed := true, recurses := true, plainKeys := false, apart := false }
def EffAgainSaid : Prop := effAgainRow.holds Try.pinned (OpenSpec.ofChange effAgainSpec)

/-- ITS FALSE NEIGHBOUR: 'it returns false'. Refute it at one input. -/
def effAgainWrong : ChangeSpec := { name := "effAgain", fn := fun _ => fun
  | [d1, d2, d3, d4] => { results := [.lit (.bool false)], args := [d1, d2, d3, d4] }
  | _ => none }
def EffAgainWrongFalsely : Prop := effAgainRow.holds Try.pinned (OpenSpec.ofChange effAgainWrong)

/-- 'butterylaw10.EffOnly': WHATEVER THE INPUT: true; the input reads as it did. -/
def effOnlySpec : ChangeSpec := { name := "effOnly", fn := fun _ => fun
  | [d1, d2, d3, d4, d5] => { results := [.lit (.bool true)], args := [d1, d2, d3, d4, d5] }
  | _ => none }
def effOnlyRow : OpenClaim := { program := "ythkdjecnecpckaa", sum := "12b4dd0924374e836d055c070e3b4f0f1c2eb985b951f081394de7b447ce43b7", func := "buttery/butterylaw10.EffOnly", spec := "effOnly", unfollowed := true, recurses := true, plainKeys := false, apart := false }
def EffOnlySaid : Prop := effOnlyRow.holds Try.pinned (OpenSpec.ofChange effOnlySpec)

/-- ITS FALSE NEIGHBOUR: 'it returns false'. Refute it at one input. -/
def effOnlyWrong : ChangeSpec := { name := "effOnly", fn := fun _ => fun
  | [d1, d2, d3, d4, d5] => { results := [.lit (.bool false)], args := [d1, d2, d3, d4, d5] }
  | _ => none }
def EffOnlyWrongFalsely : Prop := effOnlyRow.holds Try.pinned (OpenSpec.ofChange effOnlyWrong)

/- THE SECOND FORM. 'bulk': how many values and letters a reading holds, each counted each time it is reached (what is shared counts as often as it is met; a slice's spare places count too). A statement '..UptoSaid' is the law's where the arguments, and the package variables that the reading takes, are together of bulk at most 1048576: NARROWER than '..Said'. Prove '..Said' where nothing that the law and all that it calls make is longer than what came in: it says more and counts as full. Else prove '..UptoSaid'. A law counts once. -/
mutual
def uptoBulk {H : Type} : DataW H → Nat
  | .lit (.string bytes) => bytes.length + 1
  | .lit _ => 1
  | .nil => 1
  | .ptr d => uptoBulk d + 1
  | .slice elems spare => uptoBulkAll elems + uptoBulkAll spare + 1
  | .agg parts => uptoBulkAll parts + 1
  | .iface _ d => uptoBulk d + 1
  | .map entries => uptoBulkEntries entries + 1
  | .held _ => 1
def uptoBulkAll {H : Type} : List (DataW H) → Nat
  | [] => 0
  | d :: r => uptoBulk d + uptoBulkAll r
def uptoBulkEntries {H : Type} : List (Lit × DataW H) → Nat
  | [] => 0
  | x :: r => uptoBulkEntry x + uptoBulkEntries r
def uptoBulkEntry {H : Type} : Lit × DataW H → Nat
  | (.string bytes, d) => bytes.length + uptoBulk d + 1
  | (_, d) => uptoBulk d + 1
 end
def uptoSmall : (H : Type) → List (DataW H) → Bool := fun _ ds => decide (uptoBulkAll ds ≤ 1048576)
def OpenSpec.upto (s : _root_.Go.ChangeSpec) : _root_.Go.OpenSpec := { _root_.Go.OpenSpec.ofChange s with cond := some uptoSmall }

/-- 'butterylaw13.TxnBack', WHERE WHAT IT READS IS OF BULK AT MOST 1048576: true; the input reads as it did. -/
def txnBackUptoRow : OpenClaim := { program := "ythkdjecnecpckaa", sum := "12b4dd0924374e836d055c070e3b4f0f1c2eb985b951f081394de7b447ce43b7", func := "buttery/butterylaw13.TxnBack", spec := "txnBack", unfollowed := true, recurses := true, plainKeys := false, apart := false, narrowed := true }
def TxnBackUptoSaid : Prop := txnBackUptoRow.holds Try.pinned (OpenSpec.upto txnBackSpec)

/-- 'butterylaw13.TxnCut', WHERE WHAT IT READS IS OF BULK AT MOST 1048576: true; the input reads as it did. -/
def txnCutUptoRow : OpenClaim := { program := "ythkdjecnecpckaa", sum := "12b4dd0924374e836d055c070e3b4f0f1c2eb985b951f081394de7b447ce43b7", func := "buttery/butterylaw13.TxnCut", spec := "txnCut", unfollowed := true, recurses := true, plainKeys := false, apart := false, narrowed := true }
def TxnCutUptoSaid : Prop := txnCutUptoRow.holds Try.pinned (OpenSpec.upto txnCutSpec)

/-- 'butterylaw13.TxnOnly', WHERE WHAT IT READS IS OF BULK AT MOST 1048576: true; the input reads as it did. -/
def txnOnlyUptoRow : OpenClaim := { program := "ythkdjecnecpckaa", sum := "12b4dd0924374e836d055c070e3b4f0f1c2eb985b951f081394de7b447ce43b7", func := "buttery/butterylaw13.TxnOnly", spec := "txnOnly", unfollowed := true, recurses := true, plainKeys := false, apart := false, narrowed := true }
def TxnOnlyUptoSaid : Prop := txnOnlyUptoRow.holds Try.pinned (OpenSpec.upto txnOnlySpec)

/-- 'butterylaw13.TxnAll', WHERE WHAT IT READS IS OF BULK AT MOST 1048576: true; the input reads as it did. -/
def txnAllUptoRow : OpenClaim := { program := "ythkdjecnecpckaa", sum := "12b4dd0924374e836d055c070e3b4f0f1c2eb985b951f081394de7b447ce43b7", func := "buttery/butterylaw13.TxnAll", spec := "txnAll", unfollowed := true, recurses := true, plainKeys := false, apart := false, narrowed := true }
def TxnAllUptoSaid : Prop := txnAllUptoRow.holds Try.pinned (OpenSpec.upto txnAllSpec)

/-- 'butterylaw10.EffConcurrent', WHERE WHAT IT READS IS OF BULK AT MOST 1048576: true; the input reads as it did. -/
def effConcurrentUptoRow : OpenClaim := { program := "ythkdjecnecpckaa", sum := "12b4dd0924374e836d055c070e3b4f0f1c2eb985b951f081394de7b447ce43b7", func := "buttery/butterylaw10.EffConcurrent", spec := "effConcurrent", unfollowed := true, recurses := true, plainKeys := false, apart := false, narrowed := true }
def EffConcurrentUptoSaid : Prop := effConcurrentUptoRow.holds Try.pinned (OpenSpec.upto effConcurrentSpec)

/-- 'butterylaw10.EffAgain', WHERE WHAT IT READS IS OF BULK AT MOST 1048576: true; the input reads as it did. -/
def effAgainUptoRow : OpenClaim := { program := "ythkdjecnecpckaa", sum := "12b4dd0924374e836d055c070e3b4f0f1c2eb985b951f081394de7b447ce43b7", func := "buttery/butterylaw10.EffAgain", spec := "effAgain", unfollowed := true, recurses := true, plainKeys := false, apart := false, narrowed := true }
def EffAgainUptoSaid : Prop := effAgainUptoRow.holds Try.pinned (OpenSpec.upto effAgainSpec)

/-- 'butterylaw10.EffOnly', WHERE WHAT IT READS IS OF BULK AT MOST 1048576: true; the input reads as it did. -/
def effOnlyUptoRow : OpenClaim := { program := "ythkdjecnecpckaa", sum := "12b4dd0924374e836d055c070e3b4f0f1c2eb985b951f081394de7b447ce43b7", func := "buttery/butterylaw10.EffOnly", spec := "effOnly", unfollowed := true, recurses := true, plainKeys := false, apart := false, narrowed := true }
def EffOnlyUptoSaid : Prop := effOnlyUptoRow.holds Try.pinned (OpenSpec.upto effOnlySpec)

end Rows
end Go.Proofs.Ythkdjecnecpckaa
