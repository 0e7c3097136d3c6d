/-
  No cell of these rows narrows 'for every input' (looked for: loops, veiled, ifaces, maps, wideKeys, modest, calm, conditions, laid).
  DERIVED. THE GIVEN ROWS OF THIS SEAT. 3 by the template 'for every input the law returns true; each argument reads behind the call as it read before'; 0 by the template 'total and deterministic' (their statements: YtjgmoglhbdgmpaaGreatTotals.lean).
  GIVEN WITH THE SEED: the statements are not yours to turn. If you find one false, say at which input.
  Laid BY PROGRAM, IN A SANDBOX (cutbox-rows.mjs): the forced cells as the released guide's own fill.sh prints them over the translation 3043d0648e1f5e7a… (all of the seat's roots in one cut). By AI agents, Wed Nov 11 2026. No macro, syntax, notation, axiom, sorry.
-/
import Derived.Test.YtjgmoglhbdgmpaaGreatChecked
import GoSem.Claim
import GoSem.ClaimJoined
import GoSem.ClaimMapViews
import Derived.JoinedTies
import Derived.KernelRfl
namespace Go.Proofs.YtjgmoglhbdgmpaaGreat
/- THE CELL 'sum', in the pinned program and in every row, IS THE sha256 OF THE DUMP (.gsa) THAT YtjgmoglhbdgmpaaGreatProg.lean LOADS. Nothing in Lean hashes anything: it is a label: what it is worth is what the hold of that sum in a sandbox is worth. -/
noncomputable def Tryz.pinned : Pinned := { name := "ytjgmoglhbdgmpaagreat", sum := "3043d0648e1f5e7a06d050b37f5894e78b388a5b280d7b707acb6f18384f9e70", checked := Tryz.checked }
namespace Rows
def none {H : Type} : Left H := { results := [], args := [] }

/-- 'butterylaw26.SpecAll': WHATEVER THE INPUT: true; the input reads as it did. -/
def specAllSpec : ChangeSpec := { name := "specAll", fn := fun _ => fun
  | [d1, d2] => { results := [.lit (.bool true)], args := [d1, d2] }
  | _ => none }
def specAllRow : OpenClaim := { program := "ytjgmoglhbdgmpaagreat", sum := "3043d0648e1f5e7a06d050b37f5894e78b388a5b280d7b707acb6f18384f9e70", func := "buttery/butterylaw26.SpecAll", spec := "specAll", unfollowed := true, recurses := true, plainKeys := false, apart := false }
def SpecAllSaid : Prop := specAllRow.holds Tryz.pinned (OpenSpec.ofChange specAllSpec)

/-- ITS FALSE NEIGHBOUR: 'it returns false'. Refute it at one input. -/
def specAllWrong : ChangeSpec := { name := "specAll", fn := fun _ => fun
  | [d1, d2] => { results := [.lit (.bool false)], args := [d1, d2] }
  | _ => none }
def SpecAllWrongFalsely : Prop := specAllRow.holds Tryz.pinned (OpenSpec.ofChange specAllWrong)

/-- 'butterylaw15.StoreAll': WHATEVER THE INPUT: true; the input reads as it did. -/
def storeAllSpec : ChangeSpec := { name := "storeAll", fn := fun _ => fun
  | [d1, d2, d3, d4] => { results := [.lit (.bool true)], args := [d1, d2, d3, d4] }
  | _ => none }
def storeAllRow : OpenClaim := { program := "ytjgmoglhbdgmpaagreat", sum := "3043d0648e1f5e7a06d050b37f5894e78b388a5b280d7b707acb6f18384f9e70", func := "buttery/butterylaw15.StoreAll", spec := "storeAll", unfollowed := true, recurses := true, plainKeys := false, apart := false }
def StoreAllSaid : Prop := storeAllRow.holds Tryz.pinned (OpenSpec.ofChange storeAllSpec)

/-- ITS FALSE NEIGHBOUR: 'it returns false'. Refute it at one input. -/
def storeAllWrong : ChangeSpec := { name := "storeAll", fn := fun _ => fun
  | [d1, d2, d3, d4] => { results := [.lit (.bool false)], args := [d1, d2, d3, d4] }
  | _ => none }
def StoreAllWrongFalsely : Prop := storeAllRow.holds Tryz.pinned (OpenSpec.ofChange storeAllWrong)

/-- 'butterylaw15.StoreUnder': WHATEVER THE INPUT: true; the input reads as it did. -/
def storeUnderSpec : ChangeSpec := { name := "storeUnder", fn := fun _ => fun
  | [d1, d2, d3] => { results := [.lit (.bool true)], args := [d1, d2, d3] }
  | _ => none }
def storeUnderRow : OpenClaim := { program := "ytjgmoglhbdgmpaagreat", sum := "3043d0648e1f5e7a06d050b37f5894e78b388a5b280d7b707acb6f18384f9e70", func := "buttery/butterylaw15.StoreUnder", spec := "storeUnder", unfollowed := true, recurses := true, plainKeys := false, apart := false }
def StoreUnderSaid : Prop := storeUnderRow.holds Tryz.pinned (OpenSpec.ofChange storeUnderSpec)

/-- ITS FALSE NEIGHBOUR: 'it returns false'. Refute it at one input. -/
def storeUnderWrong : ChangeSpec := { name := "storeUnder", fn := fun _ => fun
  | [d1, d2, d3] => { results := [.lit (.bool false)], args := [d1, d2, d3] }
  | _ => none }
def StoreUnderWrongFalsely : Prop := storeUnderRow.holds Tryz.pinned (OpenSpec.ofChange storeUnderWrong)

/- THE SECOND FORM. 'bulk': how many values and letters a reading holds, each counted each time it is reached (what is shared counts as often as it is met; a slice's spare places count too). A statement '..UptoSaid' is the law's where the arguments, and the package variables that the reading takes, are together of bulk at most 1048576: NARROWER than '..Said'. Prove '..Said' where nothing that the law and all that it calls make is longer than what came in: it says more and counts as full. Else prove '..UptoSaid'. A law counts once. -/
mutual
def uptoBulk {H : Type} : DataW H → Nat
  | .lit (.string bytes) => bytes.length + 1
  | .lit _ => 1
  | .nil => 1
  | .ptr d => uptoBulk d + 1
  | .slice elems spare => uptoBulkAll elems + uptoBulkAll spare + 1
  | .agg parts => uptoBulkAll parts + 1
  | .iface _ d => uptoBulk d + 1
  | .map entries => uptoBulkEntries entries + 1
  | .held _ => 1
def uptoBulkAll {H : Type} : List (DataW H) → Nat
  | [] => 0
  | d :: r => uptoBulk d + uptoBulkAll r
def uptoBulkEntries {H : Type} : List (Lit × DataW H) → Nat
  | [] => 0
  | x :: r => uptoBulkEntry x + uptoBulkEntries r
def uptoBulkEntry {H : Type} : Lit × DataW H → Nat
  | (.string bytes, d) => bytes.length + uptoBulk d + 1
  | (_, d) => uptoBulk d + 1
 end
def uptoSmall : (H : Type) → List (DataW H) → Bool := fun _ ds => decide (uptoBulkAll ds ≤ 1048576)
def OpenSpec.upto (s : _root_.Go.ChangeSpec) : _root_.Go.OpenSpec := { _root_.Go.OpenSpec.ofChange s with cond := some uptoSmall }

/-- 'butterylaw26.SpecAll', WHERE WHAT IT READS IS OF BULK AT MOST 1048576: true; the input reads as it did. -/
def specAllUptoRow : OpenClaim := { program := "ytjgmoglhbdgmpaagreat", sum := "3043d0648e1f5e7a06d050b37f5894e78b388a5b280d7b707acb6f18384f9e70", func := "buttery/butterylaw26.SpecAll", spec := "specAll", unfollowed := true, recurses := true, plainKeys := false, apart := false, narrowed := true }
def SpecAllUptoSaid : Prop := specAllUptoRow.holds Tryz.pinned (OpenSpec.upto specAllSpec)

/-- 'butterylaw15.StoreAll', WHERE WHAT IT READS IS OF BULK AT MOST 1048576: true; the input reads as it did. -/
def storeAllUptoRow : OpenClaim := { program := "ytjgmoglhbdgmpaagreat", sum := "3043d0648e1f5e7a06d050b37f5894e78b388a5b280d7b707acb6f18384f9e70", func := "buttery/butterylaw15.StoreAll", spec := "storeAll", unfollowed := true, recurses := true, plainKeys := false, apart := false, narrowed := true }
def StoreAllUptoSaid : Prop := storeAllUptoRow.holds Tryz.pinned (OpenSpec.upto storeAllSpec)

/-- 'butterylaw15.StoreUnder', WHERE WHAT IT READS IS OF BULK AT MOST 1048576: true; the input reads as it did. -/
def storeUnderUptoRow : OpenClaim := { program := "ytjgmoglhbdgmpaagreat", sum := "3043d0648e1f5e7a06d050b37f5894e78b388a5b280d7b707acb6f18384f9e70", func := "buttery/butterylaw15.StoreUnder", spec := "storeUnder", unfollowed := true, recurses := true, plainKeys := false, apart := false, narrowed := true }
def StoreUnderUptoSaid : Prop := storeUnderUptoRow.holds Tryz.pinned (OpenSpec.upto storeUnderSpec)

end Rows
end Go.Proofs.YtjgmoglhbdgmpaaGreat
