/-
  No cell of these rows narrows 'for every input' (looked for: loops, veiled, ifaces, maps, wideKeys, modest, calm, conditions, laid).
  DERIVED. THE GIVEN ROWS OF THIS SEAT. 7 by the template 'for every input the law returns true; each argument reads behind the call as it read before'; 0 by the template 'total and deterministic' (their statements: YtldjfpfahgcicaaTotals.lean).
  GIVEN WITH THE SEED: the statements are not yours to turn. If you find one false, say at which input.
  Laid BY PROGRAM, IN A SANDBOX (cutbox-rows.mjs): the forced cells as the released guide's own fill.sh prints them over the translation 9025de75a90ff4db… (all of the seat's roots in one cut). By AI agents, Wed Nov 11 2026. No macro, syntax, notation, axiom, sorry.
-/
import Derived.Test.YtldjfpfahgcicaaChecked
import GoSem.Claim
import GoSem.ClaimJoined
import GoSem.ClaimMapViews
import Derived.JoinedTies
import Derived.KernelRfl
namespace Go.Proofs.Ytldjfpfahgcicaa
/- THE CELL 'sum', in the pinned program and in every row, IS THE sha256 OF THE DUMP (.gsa) THAT YtldjfpfahgcicaaProg.lean LOADS. Nothing in Lean hashes anything: it is a label: what it is worth is what the hold of that sum in a sandbox is worth. -/
noncomputable def Try.pinned : Pinned := { name := "ytldjfpfahgcicaa", sum := "9025de75a90ff4db0fd8f92e84f4e9c7cee033ecdab5081cf9c58d756935b1bb", checked := Try.checked }
namespace Rows
def none {H : Type} : Left H := { results := [], args := [] }

/-- 'butterylaw26.SpecOrder': WHATEVER THE INPUT: true; the input reads as it did. -/
def specOrderSpec : ChangeSpec := { name := "specOrder", fn := fun _ => fun
  | [d1, d2] => { results := [.lit (.bool true)], args := [d1, d2] }
  | _ => none }
def specOrderRow : OpenClaim := { program := "ytldjfpfahgcicaa", sum := "9025de75a90ff4db0fd8f92e84f4e9c7cee033ecdab5081cf9c58d756935b1bb", func := "buttery/butterylaw26.SpecOrder", spec := "specOrder", unfollowed := true, recurses := true, plainKeys := false, apart := false }
def SpecOrderSaid : Prop := specOrderRow.holds Try.pinned (OpenSpec.ofChange specOrderSpec)

/-- ITS FALSE NEIGHBOUR: 'it returns false'. Refute it at one input. -/
def specOrderWrong : ChangeSpec := { name := "specOrder", fn := fun _ => fun
  | [d1, d2] => { results := [.lit (.bool false)], args := [d1, d2] }
  | _ => none }
def SpecOrderWrongFalsely : Prop := specOrderRow.holds Try.pinned (OpenSpec.ofChange specOrderWrong)

/-- 'butterylaw26.SpecOne': WHATEVER THE INPUT: true; the input reads as it did. -/
def specOneSpec : ChangeSpec := { name := "specOne", fn := fun _ => fun
  | [d] => { results := [.lit (.bool true)], args := [d] }
  | _ => none }
def specOneRow : OpenClaim := { program := "ytldjfpfahgcicaa", sum := "9025de75a90ff4db0fd8f92e84f4e9c7cee033ecdab5081cf9c58d756935b1bb", func := "buttery/butterylaw26.SpecOne", spec := "specOne", unfollowed := true, recurses := true, plainKeys := false, apart := false }
def SpecOneSaid : Prop := specOneRow.holds Try.pinned (OpenSpec.ofChange specOneSpec)

/-- ITS FALSE NEIGHBOUR: 'it returns false'. Refute it at one input. -/
def specOneWrong : ChangeSpec := { name := "specOne", fn := fun _ => fun
  | [d] => { results := [.lit (.bool false)], args := [d] }
  | _ => none }
def SpecOneWrongFalsely : Prop := specOneRow.holds Try.pinned (OpenSpec.ofChange specOneWrong)

/-- 'butterylaw26.SpecPart': WHATEVER THE INPUT: true; the input reads as it did. -/
def specPartSpec : ChangeSpec := { name := "specPart", fn := fun _ => fun
  | [d1, d2, d3] => { results := [.lit (.bool true)], args := [d1, d2, d3] }
  | _ => none }
def specPartRow : OpenClaim := { program := "ytldjfpfahgcicaa", sum := "9025de75a90ff4db0fd8f92e84f4e9c7cee033ecdab5081cf9c58d756935b1bb", func := "buttery/butterylaw26.SpecPart", spec := "specPart", unfollowed := true, recurses := true, plainKeys := false, apart := false }
def SpecPartSaid : Prop := specPartRow.holds Try.pinned (OpenSpec.ofChange specPartSpec)

/-- ITS FALSE NEIGHBOUR: 'it returns false'. Refute it at one input. -/
def specPartWrong : ChangeSpec := { name := "specPart", fn := fun _ => fun
  | [d1, d2, d3] => { results := [.lit (.bool false)], args := [d1, d2, d3] }
  | _ => none }
def SpecPartWrongFalsely : Prop := specPartRow.holds Try.pinned (OpenSpec.ofChange specPartWrong)

/-- 'butterylaw26.SpecStore': WHATEVER THE INPUT: true; the input reads as it did. -/
def specStoreSpec : ChangeSpec := { name := "specStore", fn := fun _ => fun
  | [d] => { results := [.lit (.bool true)], args := [d] }
  | _ => none }
def specStoreRow : OpenClaim := { program := "ytldjfpfahgcicaa", sum := "9025de75a90ff4db0fd8f92e84f4e9c7cee033ecdab5081cf9c58d756935b1bb", func := "buttery/butterylaw26.SpecStore", spec := "specStore", unfollowed := true, recurses := true, plainKeys := false, apart := false }
def SpecStoreSaid : Prop := specStoreRow.holds Try.pinned (OpenSpec.ofChange specStoreSpec)

/-- ITS FALSE NEIGHBOUR: 'it returns false'. Refute it at one input. -/
def specStoreWrong : ChangeSpec := { name := "specStore", fn := fun _ => fun
  | [d] => { results := [.lit (.bool false)], args := [d] }
  | _ => none }
def SpecStoreWrongFalsely : Prop := specStoreRow.holds Try.pinned (OpenSpec.ofChange specStoreWrong)

/-- 'butterylaw15.StoreSound': WHATEVER THE INPUT: true; the input reads as it did. -/
def storeSoundSpec : ChangeSpec := { name := "storeSound", fn := fun _ => fun
  | [d1, d2] => { results := [.lit (.bool true)], args := [d1, d2] }
  | _ => none }
def storeSoundRow : OpenClaim := { program := "ytldjfpfahgcicaa", sum := "9025de75a90ff4db0fd8f92e84f4e9c7cee033ecdab5081cf9c58d756935b1bb", func := "buttery/butterylaw15.StoreSound", spec := "storeSound", unfollowed := true, recurses := true, plainKeys := false, apart := false }
def StoreSoundSaid : Prop := storeSoundRow.holds Try.pinned (OpenSpec.ofChange storeSoundSpec)

/-- ITS FALSE NEIGHBOUR: 'it returns false'. Refute it at one input. -/
def storeSoundWrong : ChangeSpec := { name := "storeSound", fn := fun _ => fun
  | [d1, d2] => { results := [.lit (.bool false)], args := [d1, d2] }
  | _ => none }
def StoreSoundWrongFalsely : Prop := storeSoundRow.holds Try.pinned (OpenSpec.ofChange storeSoundWrong)

/-- 'butterylaw15.StoreAny': WHATEVER THE INPUT: true; the input reads as it did. -/
def storeAnySpec : ChangeSpec := { name := "storeAny", fn := fun _ => fun
  | [d1, d2, d3] => { results := [.lit (.bool true)], args := [d1, d2, d3] }
  | _ => none }
def storeAnyRow : OpenClaim := { program := "ytldjfpfahgcicaa", sum := "9025de75a90ff4db0fd8f92e84f4e9c7cee033ecdab5081cf9c58d756935b1bb", func := "buttery/butterylaw15.StoreAny", spec := "storeAny", unfollowed := true, recurses := true, plainKeys := false, apart := false }
def StoreAnySaid : Prop := storeAnyRow.holds Try.pinned (OpenSpec.ofChange storeAnySpec)

/-- ITS FALSE NEIGHBOUR: 'it returns false'. Refute it at one input. -/
def storeAnyWrong : ChangeSpec := { name := "storeAny", fn := fun _ => fun
  | [d1, d2, d3] => { results := [.lit (.bool false)], args := [d1, d2, d3] }
  | _ => none }
def StoreAnyWrongFalsely : Prop := storeAnyRow.holds Try.pinned (OpenSpec.ofChange storeAnyWrong)

/-- 'butterylaw15.StoreAgain': WHATEVER THE INPUT: true; the input reads as it did. -/
def storeAgainSpec : ChangeSpec := { name := "storeAgain", fn := fun _ => fun
  | [d1, d2, d3] => { results := [.lit (.bool true)], args := [d1, d2, d3] }
  | _ => none }
def storeAgainRow : OpenClaim := { program := "ytldjfpfahgcicaa", sum := "9025de75a90ff4db0fd8f92e84f4e9c7cee033ecdab5081cf9c58d756935b1bb", func := "buttery/butterylaw15.StoreAgain", spec := "storeAgain", unfollowed := true, recurses := true, plainKeys := false, apart := false }
def StoreAgainSaid : Prop := storeAgainRow.holds Try.pinned (OpenSpec.ofChange storeAgainSpec)

/-- ITS FALSE NEIGHBOUR: 'it returns false'. Refute it at one input. -/
def storeAgainWrong : ChangeSpec := { name := "storeAgain", fn := fun _ => fun
  | [d1, d2, d3] => { results := [.lit (.bool false)], args := [d1, d2, d3] }
  | _ => none }
def StoreAgainWrongFalsely : Prop := storeAgainRow.holds Try.pinned (OpenSpec.ofChange storeAgainWrong)

/- THE SECOND FORM. 'bulk': how many values and letters a reading holds, each counted each time it is reached (what is shared counts as often as it is met; a slice's spare places count too). A statement '..UptoSaid' is the law's where the arguments, and the package variables that the reading takes, are together of bulk at most 1048576: NARROWER than '..Said'. Prove '..Said' where nothing that the law and all that it calls make is longer than what came in: it says more and counts as full. Else prove '..UptoSaid'. A law counts once. -/
mutual
def uptoBulk {H : Type} : DataW H → Nat
  | .lit (.string bytes) => bytes.length + 1
  | .lit _ => 1
  | .nil => 1
  | .ptr d => uptoBulk d + 1
  | .slice elems spare => uptoBulkAll elems + uptoBulkAll spare + 1
  | .agg parts => uptoBulkAll parts + 1
  | .iface _ d => uptoBulk d + 1
  | .map entries => uptoBulkEntries entries + 1
  | .held _ => 1
def uptoBulkAll {H : Type} : List (DataW H) → Nat
  | [] => 0
  | d :: r => uptoBulk d + uptoBulkAll r
def uptoBulkEntries {H : Type} : List (Lit × DataW H) → Nat
  | [] => 0
  | x :: r => uptoBulkEntry x + uptoBulkEntries r
def uptoBulkEntry {H : Type} : Lit × DataW H → Nat
  | (.string bytes, d) => bytes.length + uptoBulk d + 1
  | (_, d) => uptoBulk d + 1
 end
def uptoSmall : (H : Type) → List (DataW H) → Bool := fun _ ds => decide (uptoBulkAll ds ≤ 1048576)
def OpenSpec.upto (s : _root_.Go.ChangeSpec) : _root_.Go.OpenSpec := { _root_.Go.OpenSpec.ofChange s with cond := some uptoSmall }

/-- 'butterylaw26.SpecOrder', WHERE WHAT IT READS IS OF BULK AT MOST 1048576: true; the input reads as it did. -/
def specOrderUptoRow : OpenClaim := { program := "ytldjfpfahgcicaa", sum := "9025de75a90ff4db0fd8f92e84f4e9c7cee033ecdab5081cf9c58d756935b1bb", func := "buttery/butterylaw26.SpecOrder", spec := "specOrder", unfollowed := true, recurses := true, plainKeys := false, apart := false, narrowed := true }
def SpecOrderUptoSaid : Prop := specOrderUptoRow.holds Try.pinned (OpenSpec.upto specOrderSpec)

/-- 'butterylaw26.SpecOne', WHERE WHAT IT READS IS OF BULK AT MOST 1048576: true; the input reads as it did. -/
def specOneUptoRow : OpenClaim := { program := "ytldjfpfahgcicaa", sum := "9025de75a90ff4db0fd8f92e84f4e9c7cee033ecdab5081cf9c58d756935b1bb", func := "buttery/butterylaw26.SpecOne", spec := "specOne", unfollowed := true, recurses := true, plainKeys := false, apart := false, narrowed := true }
def SpecOneUptoSaid : Prop := specOneUptoRow.holds Try.pinned (OpenSpec.upto specOneSpec)

/-- 'butterylaw26.SpecPart', WHERE WHAT IT READS IS OF BULK AT MOST 1048576: true; the input reads as it did. -/
def specPartUptoRow : OpenClaim := { program := "ytldjfpfahgcicaa", sum := "9025de75a90ff4db0fd8f92e84f4e9c7cee033ecdab5081cf9c58d756935b1bb", func := "buttery/butterylaw26.SpecPart", spec := "specPart", unfollowed := true, recurses := true, plainKeys := false, apart := false, narrowed := true }
def SpecPartUptoSaid : Prop := specPartUptoRow.holds Try.pinned (OpenSpec.upto specPartSpec)

/-- 'butterylaw26.SpecStore', WHERE WHAT IT READS IS OF BULK AT MOST 1048576: true; the input reads as it did. -/
def specStoreUptoRow : OpenClaim := { program := "ytldjfpfahgcicaa", sum := "9025de75a90ff4db0fd8f92e84f4e9c7cee033ecdab5081cf9c58d756935b1bb", func := "buttery/butterylaw26.SpecStore", spec := "specStore", unfollowed := true, recurses := true, plainKeys := false, apart := false, narrowed := true }
def SpecStoreUptoSaid : Prop := specStoreUptoRow.holds Try.pinned (OpenSpec.upto specStoreSpec)

/-- 'butterylaw15.StoreSound', WHERE WHAT IT READS IS OF BULK AT MOST 1048576: true; the input reads as it did. -/
def storeSoundUptoRow : OpenClaim := { program := "ytldjfpfahgcicaa", sum := "9025de75a90ff4db0fd8f92e84f4e9c7cee033ecdab5081cf9c58d756935b1bb", func := "buttery/butterylaw15.StoreSound", spec := "storeSound", unfollowed := true, recurses := true, plainKeys := false, apart := false, narrowed := true }
def StoreSoundUptoSaid : Prop := storeSoundUptoRow.holds Try.pinned (OpenSpec.upto storeSoundSpec)

/-- 'butterylaw15.StoreAny', WHERE WHAT IT READS IS OF BULK AT MOST 1048576: true; the input reads as it did. -/
def storeAnyUptoRow : OpenClaim := { program := "ytldjfpfahgcicaa", sum := "9025de75a90ff4db0fd8f92e84f4e9c7cee033ecdab5081cf9c58d756935b1bb", func := "buttery/butterylaw15.StoreAny", spec := "storeAny", unfollowed := true, recurses := true, plainKeys := false, apart := false, narrowed := true }
def StoreAnyUptoSaid : Prop := storeAnyUptoRow.holds Try.pinned (OpenSpec.upto storeAnySpec)

/-- 'butterylaw15.StoreAgain', WHERE WHAT IT READS IS OF BULK AT MOST 1048576: true; the input reads as it did. -/
def storeAgainUptoRow : OpenClaim := { program := "ytldjfpfahgcicaa", sum := "9025de75a90ff4db0fd8f92e84f4e9c7cee033ecdab5081cf9c58d756935b1bb", func := "buttery/butterylaw15.StoreAgain", spec := "storeAgain", unfollowed := true, recurses := true, plainKeys := false, apart := false, narrowed := true }
def StoreAgainUptoSaid : Prop := storeAgainUptoRow.holds Try.pinned (OpenSpec.upto storeAgainSpec)

end Rows
end Go.Proofs.Ytldjfpfahgcicaa
