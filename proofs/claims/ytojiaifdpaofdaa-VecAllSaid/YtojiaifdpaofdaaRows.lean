/-
  No cell of these rows narrows 'for every input' (looked for: loops, veiled, ifaces, maps, wideKeys, modest, calm, conditions, laid).
  DERIVED. THE GIVEN ROWS OF THIS SEAT. 12 by the template 'for every input the law returns true; each argument reads behind the call as it read before'; 0 by the template 'total and deterministic' (their statements: YtojiaifdpaofdaaTotals.lean).
  GIVEN WITH THE SEED: the statements are not yours to turn. If you find one false, say at which input.
  Laid BY PROGRAM, IN A SANDBOX (cutbox-rows.mjs): the forced cells as the released guide's own fill.sh prints them over the translation 077ba882e1c64c6d… (all of the seat's roots in one cut). By AI agents, Wed Nov 11 2026. No macro, syntax, notation, axiom, sorry.
-/
import Derived.Test.YtojiaifdpaofdaaChecked
import GoSem.Claim
import GoSem.ClaimJoined
import GoSem.ClaimMapViews
import Derived.JoinedTies
import Derived.KernelRfl
namespace Go.Proofs.Ytojiaifdpaofdaa
/- THE CELL 'sum', in the pinned program and in every row, IS THE sha256 OF THE DUMP (.gsa) THAT YtojiaifdpaofdaaProg.lean LOADS. Nothing in Lean hashes anything: it is a label: what it is worth is what the hold of that sum in a sandbox is worth. -/
noncomputable def Try.pinned : Pinned := { name := "ytojiaifdpaofdaa", sum := "077ba882e1c64c6d19062db8ea37e7fb9986748d37b2cbb6930eb0688f8d8ef2", checked := Try.checked }
namespace Rows
def none {H : Type} : Left H := { results := [], args := [] }

/-- 'butterylaw03.BinSize': WHATEVER THE INPUT: true; the input reads as it did. -/
def binSizeSpec : ChangeSpec := { name := "binSize", fn := fun _ => fun
  | [d1, d2] => { results := [.lit (.bool true)], args := [d1, d2] }
  | _ => none }
def binSizeRow : OpenClaim := { program := "ytojiaifdpaofdaa", sum := "077ba882e1c64c6d19062db8ea37e7fb9986748d37b2cbb6930eb0688f8d8ef2", func := "buttery/butterylaw03.BinSize", spec := "binSize", apart := false }
def BinSizeSaid : Prop := binSizeRow.holds Try.pinned (OpenSpec.ofChange binSizeSpec)

/-- ITS FALSE NEIGHBOUR: 'it returns false'. Refute it at one input. -/
def binSizeWrong : ChangeSpec := { name := "binSize", fn := fun _ => fun
  | [d1, d2] => { results := [.lit (.bool false)], args := [d1, d2] }
  | _ => none }
def BinSizeWrongFalsely : Prop := binSizeRow.holds Try.pinned (OpenSpec.ofChange binSizeWrong)

/-- 'butterylaw03.BinOne': WHATEVER THE INPUT: true; the input reads as it did. -/
def binOneSpec : ChangeSpec := { name := "binOne", fn := fun _ => fun
  | [d] => { results := [.lit (.bool true)], args := [d] }
  | _ => none }
def binOneRow : OpenClaim := { program := "ytojiaifdpaofdaa", sum := "077ba882e1c64c6d19062db8ea37e7fb9986748d37b2cbb6930eb0688f8d8ef2", func := "buttery/butterylaw03.BinOne", spec := "binOne", apart := false }
def BinOneSaid : Prop := binOneRow.holds Try.pinned (OpenSpec.ofChange binOneSpec)

/-- ITS FALSE NEIGHBOUR: 'it returns false'. Refute it at one input. -/
def binOneWrong : ChangeSpec := { name := "binOne", fn := fun _ => fun
  | [d] => { results := [.lit (.bool false)], args := [d] }
  | _ => none }
def BinOneWrongFalsely : Prop := binOneRow.holds Try.pinned (OpenSpec.ofChange binOneWrong)

/-- 'butterylaw03.BinPuts': WHATEVER THE INPUT: true; the input reads as it did. -/
def binPutsSpec : ChangeSpec := { name := "binPuts", fn := fun _ => fun
  | [d1, d2, d3, d4] => { results := [.lit (.bool true)], args := [d1, d2, d3, d4] }
  | _ => none }
def binPutsRow : OpenClaim := { program := "ytojiaifdpaofdaa", sum := "077ba882e1c64c6d19062db8ea37e7fb9986748d37b2cbb6930eb0688f8d8ef2", func := "buttery/butterylaw03.BinPuts", spec := "binPuts", apart := false }
def BinPutsSaid : Prop := binPutsRow.holds Try.pinned (OpenSpec.ofChange binPutsSpec)

/-- ITS FALSE NEIGHBOUR: 'it returns false'. Refute it at one input. -/
def binPutsWrong : ChangeSpec := { name := "binPuts", fn := fun _ => fun
  | [d1, d2, d3, d4] => { results := [.lit (.bool false)], args := [d1, d2, d3, d4] }
  | _ => none }
def BinPutsWrongFalsely : Prop := binPutsRow.holds Try.pinned (OpenSpec.ofChange binPutsWrong)

/-- 'butterylaw03.BinBack': WHATEVER THE INPUT: true; the input reads as it did. -/
def binBackSpec : ChangeSpec := { name := "binBack", fn := fun _ => fun
  | [d1, d2, d3, d4] => { results := [.lit (.bool true)], args := [d1, d2, d3, d4] }
  | _ => none }
def binBackRow : OpenClaim := { program := "ytojiaifdpaofdaa", sum := "077ba882e1c64c6d19062db8ea37e7fb9986748d37b2cbb6930eb0688f8d8ef2", func := "buttery/butterylaw03.BinBack", spec := "binBack", apart := false }
def BinBackSaid : Prop := binBackRow.holds Try.pinned (OpenSpec.ofChange binBackSpec)

/-- ITS FALSE NEIGHBOUR: 'it returns false'. Refute it at one input. -/
def binBackWrong : ChangeSpec := { name := "binBack", fn := fun _ => fun
  | [d1, d2, d3, d4] => { results := [.lit (.bool false)], args := [d1, d2, d3, d4] }
  | _ => none }
def BinBackWrongFalsely : Prop := binBackRow.holds Try.pinned (OpenSpec.ofChange binBackWrong)

/-- 'butterylaw05.DiskFull': WHATEVER THE INPUT: true; the input reads as it did. -/
def diskFullSpec : ChangeSpec := { name := "diskFull", fn := fun _ => fun
  | [d1, d2, d3] => { results := [.lit (.bool true)], args := [d1, d2, d3] }
  | _ => none }
def diskFullRow : OpenClaim := { program := "ytojiaifdpaofdaa", sum := "077ba882e1c64c6d19062db8ea37e7fb9986748d37b2cbb6930eb0688f8d8ef2", func := "buttery/butterylaw05.DiskFull", spec := "diskFull", apart := false }
def DiskFullSaid : Prop := diskFullRow.holds Try.pinned (OpenSpec.ofChange diskFullSpec)

/-- ITS FALSE NEIGHBOUR: 'it returns false'. Refute it at one input. -/
def diskFullWrong : ChangeSpec := { name := "diskFull", fn := fun _ => fun
  | [d1, d2, d3] => { results := [.lit (.bool false)], args := [d1, d2, d3] }
  | _ => none }
def DiskFullWrongFalsely : Prop := diskFullRow.holds Try.pinned (OpenSpec.ofChange diskFullWrong)

/-- 'butterylaw05.DiskKeeps': WHATEVER THE INPUT: true; the input reads as it did. -/
def diskKeepsSpec : ChangeSpec := { name := "diskKeeps", fn := fun _ => fun
  | [d] => { results := [.lit (.bool true)], args := [d] }
  | _ => none }
def diskKeepsRow : OpenClaim := { program := "ytojiaifdpaofdaa", sum := "077ba882e1c64c6d19062db8ea37e7fb9986748d37b2cbb6930eb0688f8d8ef2", func := "buttery/butterylaw05.DiskKeeps", spec := "diskKeeps", apart := false }
def DiskKeepsSaid : Prop := diskKeepsRow.holds Try.pinned (OpenSpec.ofChange diskKeepsSpec)

/-- ITS FALSE NEIGHBOUR: 'it returns false'. Refute it at one input. -/
def diskKeepsWrong : ChangeSpec := { name := "diskKeeps", fn := fun _ => fun
  | [d] => { results := [.lit (.bool false)], args := [d] }
  | _ => none }
def DiskKeepsWrongFalsely : Prop := diskKeepsRow.holds Try.pinned (OpenSpec.ofChange diskKeepsWrong)

/-- 'butterylaw05.DiskOnce': WHATEVER THE INPUT: true; the input reads as it did. -/
def diskOnceSpec : ChangeSpec := { name := "diskOnce", fn := fun _ => fun
  | [d1, d2, d3] => { results := [.lit (.bool true)], args := [d1, d2, d3] }
  | _ => none }
def diskOnceRow : OpenClaim := { program := "ytojiaifdpaofdaa", sum := "077ba882e1c64c6d19062db8ea37e7fb9986748d37b2cbb6930eb0688f8d8ef2", func := "buttery/butterylaw05.DiskOnce", spec := "diskOnce", apart := false }
def DiskOnceSaid : Prop := diskOnceRow.holds Try.pinned (OpenSpec.ofChange diskOnceSpec)

/-- ITS FALSE NEIGHBOUR: 'it returns false'. Refute it at one input. -/
def diskOnceWrong : ChangeSpec := { name := "diskOnce", fn := fun _ => fun
  | [d1, d2, d3] => { results := [.lit (.bool false)], args := [d1, d2, d3] }
  | _ => none }
def DiskOnceWrongFalsely : Prop := diskOnceRow.holds Try.pinned (OpenSpec.ofChange diskOnceWrong)

/-- 'butterylaw05.DiskAll': WHATEVER THE INPUT: true; the input reads as it did. -/
def diskAllSpec : ChangeSpec := { name := "diskAll", fn := fun _ => fun
  | [d1, d2, d3, d4] => { results := [.lit (.bool true)], args := [d1, d2, d3, d4] }
  | _ => none }
def diskAllRow : OpenClaim := { program := "ytojiaifdpaofdaa", sum := "077ba882e1c64c6d19062db8ea37e7fb9986748d37b2cbb6930eb0688f8d8ef2", func := "buttery/butterylaw05.DiskAll", spec := "diskAll", apart := false }
def DiskAllSaid : Prop := diskAllRow.holds Try.pinned (OpenSpec.ofChange diskAllSpec)

/-- ITS FALSE NEIGHBOUR: 'it returns false'. Refute it at one input. -/
def diskAllWrong : ChangeSpec := { name := "diskAll", fn := fun _ => fun
  | [d1, d2, d3, d4] => { results := [.lit (.bool false)], args := [d1, d2, d3, d4] }
  | _ => none }
def DiskAllWrongFalsely : Prop := diskAllRow.holds Try.pinned (OpenSpec.ofChange diskAllWrong)

/-- 'butterylaw07.VecJoin': WHATEVER THE INPUT: true; the input reads as it did. -/
def vecJoinSpec : ChangeSpec := { name := "vecJoin", fn := fun _ => fun
  | [d1, d2, d3] => { results := [.lit (.bool true)], args := [d1, d2, d3] }
  | _ => none }
def vecJoinRow : OpenClaim := { program := "ytojiaifdpaofdaa", sum := "077ba882e1c64c6d19062db8ea37e7fb9986748d37b2cbb6930eb0688f8d8ef2", func := "buttery/butterylaw07.VecJoin", spec := "vecJoin", unfollowed := true, recurses := true, apart := false }
def VecJoinSaid : Prop := vecJoinRow.holds Try.pinned (OpenSpec.ofChange vecJoinSpec)

/-- ITS FALSE NEIGHBOUR: 'it returns false'. Refute it at one input. -/
def vecJoinWrong : ChangeSpec := { name := "vecJoin", fn := fun _ => fun
  | [d1, d2, d3] => { results := [.lit (.bool false)], args := [d1, d2, d3] }
  | _ => none }
def VecJoinWrongFalsely : Prop := vecJoinRow.holds Try.pinned (OpenSpec.ofChange vecJoinWrong)

/-- 'butterylaw07.VecLaws': WHATEVER THE INPUT: true; the input reads as it did. -/
def vecLawsSpec : ChangeSpec := { name := "vecLaws", fn := fun _ => fun
  | [d1, d2, d3] => { results := [.lit (.bool true)], args := [d1, d2, d3] }
  | _ => none }
def vecLawsRow : OpenClaim := { program := "ytojiaifdpaofdaa", sum := "077ba882e1c64c6d19062db8ea37e7fb9986748d37b2cbb6930eb0688f8d8ef2", func := "buttery/butterylaw07.VecLaws", spec := "vecLaws", unfollowed := true, recurses := true, apart := false }
def VecLawsSaid : Prop := vecLawsRow.holds Try.pinned (OpenSpec.ofChange vecLawsSpec)

/-- ITS FALSE NEIGHBOUR: 'it returns false'. Refute it at one input. -/
def vecLawsWrong : ChangeSpec := { name := "vecLaws", fn := fun _ => fun
  | [d1, d2, d3] => { results := [.lit (.bool false)], args := [d1, d2, d3] }
  | _ => none }
def VecLawsWrongFalsely : Prop := vecLawsRow.holds Try.pinned (OpenSpec.ofChange vecLawsWrong)

/-- 'butterylaw07.VecWith': WHATEVER THE INPUT: true; the input reads as it did. -/
def vecWithSpec : ChangeSpec := { name := "vecWith", fn := fun _ => fun
  | [d1, d2, d3, d4] => { results := [.lit (.bool true)], args := [d1, d2, d3, d4] }
  | _ => none }
def vecWithRow : OpenClaim := { program := "ytojiaifdpaofdaa", sum := "077ba882e1c64c6d19062db8ea37e7fb9986748d37b2cbb6930eb0688f8d8ef2", func := "buttery/butterylaw07.VecWith", spec := "vecWith", unfollowed := true, recurses := true, apart := false }
def VecWithSaid : Prop := vecWithRow.holds Try.pinned (OpenSpec.ofChange vecWithSpec)

/-- ITS FALSE NEIGHBOUR: 'it returns false'. Refute it at one input. -/
def vecWithWrong : ChangeSpec := { name := "vecWith", fn := fun _ => fun
  | [d1, d2, d3, d4] => { results := [.lit (.bool false)], args := [d1, d2, d3, d4] }
  | _ => none }
def VecWithWrongFalsely : Prop := vecWithRow.holds Try.pinned (OpenSpec.ofChange vecWithWrong)

/-- 'butterylaw07.VecAll': WHATEVER THE INPUT: true; the input reads as it did. -/
def vecAllSpec : ChangeSpec := { name := "vecAll", fn := fun _ => fun
  | [d1, d2, d3, d4, d5] => { results := [.lit (.bool true)], args := [d1, d2, d3, d4, d5] }
  | _ => none }
def vecAllRow : OpenClaim := { program := "ytojiaifdpaofdaa", sum := "077ba882e1c64c6d19062db8ea37e7fb9986748d37b2cbb6930eb0688f8d8ef2", func := "buttery/butterylaw07.VecAll", spec := "vecAll", unfollowed := true, recurses := true, apart := false }
def VecAllSaid : Prop := vecAllRow.holds Try.pinned (OpenSpec.ofChange vecAllSpec)

/-- ITS FALSE NEIGHBOUR: 'it returns false'. Refute it at one input. -/
def vecAllWrong : ChangeSpec := { name := "vecAll", fn := fun _ => fun
  | [d1, d2, d3, d4, d5] => { results := [.lit (.bool false)], args := [d1, d2, d3, d4, d5] }
  | _ => none }
def VecAllWrongFalsely : Prop := vecAllRow.holds Try.pinned (OpenSpec.ofChange vecAllWrong)

/- THE SECOND FORM. 'bulk': how many values and letters a reading holds, each counted each time it is reached (what is shared counts as often as it is met; a slice's spare places count too). A statement '..UptoSaid' is the law's where the arguments, and the package variables that the reading takes, are together of bulk at most 1048576: NARROWER than '..Said'. Prove '..Said' where nothing that the law and all that it calls make is longer than what came in: it says more and counts as full. Else prove '..UptoSaid'. A law counts once. -/
mutual
def uptoBulk {H : Type} : DataW H → Nat
  | .lit (.string bytes) => bytes.length + 1
  | .lit _ => 1
  | .nil => 1
  | .ptr d => uptoBulk d + 1
  | .slice elems spare => uptoBulkAll elems + uptoBulkAll spare + 1
  | .agg parts => uptoBulkAll parts + 1
  | .iface _ d => uptoBulk d + 1
  | .map entries => uptoBulkEntries entries + 1
  | .held _ => 1
def uptoBulkAll {H : Type} : List (DataW H) → Nat
  | [] => 0
  | d :: r => uptoBulk d + uptoBulkAll r
def uptoBulkEntries {H : Type} : List (Lit × DataW H) → Nat
  | [] => 0
  | x :: r => uptoBulkEntry x + uptoBulkEntries r
def uptoBulkEntry {H : Type} : Lit × DataW H → Nat
  | (.string bytes, d) => bytes.length + uptoBulk d + 1
  | (_, d) => uptoBulk d + 1
 end
def uptoSmall : (H : Type) → List (DataW H) → Bool := fun _ ds => decide (uptoBulkAll ds ≤ 1048576)
def OpenSpec.upto (s : _root_.Go.ChangeSpec) : _root_.Go.OpenSpec := { _root_.Go.OpenSpec.ofChange s with cond := some uptoSmall }

/-- 'butterylaw03.BinSize', WHERE WHAT IT READS IS OF BULK AT MOST 1048576: true; the input reads as it did. -/
def binSizeUptoRow : OpenClaim := { program := "ytojiaifdpaofdaa", sum := "077ba882e1c64c6d19062db8ea37e7fb9986748d37b2cbb6930eb0688f8d8ef2", func := "buttery/butterylaw03.BinSize", spec := "binSize", apart := false, narrowed := true }
def BinSizeUptoSaid : Prop := binSizeUptoRow.holds Try.pinned (OpenSpec.upto binSizeSpec)

/-- 'butterylaw03.BinOne', WHERE WHAT IT READS IS OF BULK AT MOST 1048576: true; the input reads as it did. -/
def binOneUptoRow : OpenClaim := { program := "ytojiaifdpaofdaa", sum := "077ba882e1c64c6d19062db8ea37e7fb9986748d37b2cbb6930eb0688f8d8ef2", func := "buttery/butterylaw03.BinOne", spec := "binOne", apart := false, narrowed := true }
def BinOneUptoSaid : Prop := binOneUptoRow.holds Try.pinned (OpenSpec.upto binOneSpec)

/-- 'butterylaw03.BinPuts', WHERE WHAT IT READS IS OF BULK AT MOST 1048576: true; the input reads as it did. -/
def binPutsUptoRow : OpenClaim := { program := "ytojiaifdpaofdaa", sum := "077ba882e1c64c6d19062db8ea37e7fb9986748d37b2cbb6930eb0688f8d8ef2", func := "buttery/butterylaw03.BinPuts", spec := "binPuts", apart := false, narrowed := true }
def BinPutsUptoSaid : Prop := binPutsUptoRow.holds Try.pinned (OpenSpec.upto binPutsSpec)

/-- 'butterylaw03.BinBack', WHERE WHAT IT READS IS OF BULK AT MOST 1048576: true; the input reads as it did. -/
def binBackUptoRow : OpenClaim := { program := "ytojiaifdpaofdaa", sum := "077ba882e1c64c6d19062db8ea37e7fb9986748d37b2cbb6930eb0688f8d8ef2", func := "buttery/butterylaw03.BinBack", spec := "binBack", apart := false, narrowed := true }
def BinBackUptoSaid : Prop := binBackUptoRow.holds Try.pinned (OpenSpec.upto binBackSpec)

/-- 'butterylaw05.DiskFull', WHERE WHAT IT READS IS OF BULK AT MOST 1048576: true; the input reads as it did. -/
def diskFullUptoRow : OpenClaim := { program := "ytojiaifdpaofdaa", sum := "077ba882e1c64c6d19062db8ea37e7fb9986748d37b2cbb6930eb0688f8d8ef2", func := "buttery/butterylaw05.DiskFull", spec := "diskFull", apart := false, narrowed := true }
def DiskFullUptoSaid : Prop := diskFullUptoRow.holds Try.pinned (OpenSpec.upto diskFullSpec)

/-- 'butterylaw05.DiskKeeps', WHERE WHAT IT READS IS OF BULK AT MOST 1048576: true; the input reads as it did. -/
def diskKeepsUptoRow : OpenClaim := { program := "ytojiaifdpaofdaa", sum := "077ba882e1c64c6d19062db8ea37e7fb9986748d37b2cbb6930eb0688f8d8ef2", func := "buttery/butterylaw05.DiskKeeps", spec := "diskKeeps", apart := false, narrowed := true }
def DiskKeepsUptoSaid : Prop := diskKeepsUptoRow.holds Try.pinned (OpenSpec.upto diskKeepsSpec)

/-- 'butterylaw05.DiskOnce', WHERE WHAT IT READS IS OF BULK AT MOST 1048576: true; the input reads as it did. -/
def diskOnceUptoRow : OpenClaim := { program := "ytojiaifdpaofdaa", sum := "077ba882e1c64c6d19062db8ea37e7fb9986748d37b2cbb6930eb0688f8d8ef2", func := "buttery/butterylaw05.DiskOnce", spec := "diskOnce", apart := false, narrowed := true }
def DiskOnceUptoSaid : Prop := diskOnceUptoRow.holds Try.pinned (OpenSpec.upto diskOnceSpec)

/-- 'butterylaw05.DiskAll', WHERE WHAT IT READS IS OF BULK AT MOST 1048576: true; the input reads as it did. -/
def diskAllUptoRow : OpenClaim := { program := "ytojiaifdpaofdaa", sum := "077ba882e1c64c6d19062db8ea37e7fb9986748d37b2cbb6930eb0688f8d8ef2", func := "buttery/butterylaw05.DiskAll", spec := "diskAll", apart := false, narrowed := true }
def DiskAllUptoSaid : Prop := diskAllUptoRow.holds Try.pinned (OpenSpec.upto diskAllSpec)

/-- 'butterylaw07.VecJoin', WHERE WHAT IT READS IS OF BULK AT MOST 1048576: true; the input reads as it did. -/
def vecJoinUptoRow : OpenClaim := { program := "ytojiaifdpaofdaa", sum := "077ba882e1c64c6d19062db8ea37e7fb9986748d37b2cbb6930eb0688f8d8ef2", func := "buttery/butterylaw07.VecJoin", spec := "vecJoin", unfollowed := true, recurses := true, apart := false, narrowed := true }
def VecJoinUptoSaid : Prop := vecJoinUptoRow.holds Try.pinned (OpenSpec.upto vecJoinSpec)

/-- 'butterylaw07.VecLaws', WHERE WHAT IT READS IS OF BULK AT MOST 1048576: true; the input reads as it did. -/
def vecLawsUptoRow : OpenClaim := { program := "ytojiaifdpaofdaa", sum := "077ba882e1c64c6d19062db8ea37e7fb9986748d37b2cbb6930eb0688f8d8ef2", func := "buttery/butterylaw07.VecLaws", spec := "vecLaws", unfollowed := true, recurses := true, apart := false, narrowed := true }
def VecLawsUptoSaid : Prop := vecLawsUptoRow.holds Try.pinned (OpenSpec.upto vecLawsSpec)

/-- 'butterylaw07.VecWith', WHERE WHAT IT READS IS OF BULK AT MOST 1048576: true; the input reads as it did. -/
def vecWithUptoRow : OpenClaim := { program := "ytojiaifdpaofdaa", sum := "077ba882e1c64c6d19062db8ea37e7fb9986748d37b2cbb6930eb0688f8d8ef2", func := "buttery/butterylaw07.VecWith", spec := "vecWith", unfollowed := true, recurses := true, apart := false, narrowed := true }
def VecWithUptoSaid : Prop := vecWithUptoRow.holds Try.pinned (OpenSpec.upto vecWithSpec)

/-- 'butterylaw07.VecAll', WHERE WHAT IT READS IS OF BULK AT MOST 1048576: true; the input reads as it did. -/
def vecAllUptoRow : OpenClaim := { program := "ytojiaifdpaofdaa", sum := "077ba882e1c64c6d19062db8ea37e7fb9986748d37b2cbb6930eb0688f8d8ef2", func := "buttery/butterylaw07.VecAll", spec := "vecAll", unfollowed := true, recurses := true, apart := false, narrowed := true }
def VecAllUptoSaid : Prop := vecAllUptoRow.holds Try.pinned (OpenSpec.upto vecAllSpec)

end Rows
end Go.Proofs.Ytojiaifdpaofdaa
