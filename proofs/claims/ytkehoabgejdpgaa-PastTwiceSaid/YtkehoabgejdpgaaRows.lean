/-
  No cell of these rows narrows 'for every input' (looked for: loops, veiled, ifaces, maps, wideKeys, modest, calm, conditions, laid).
  DERIVED. THE GIVEN ROWS OF THIS SEAT. 13 by the template 'for every input the law returns true; each argument reads behind the call as it read before'; 0 by the template 'total and deterministic' (their statements: YtkehoabgejdpgaaTotals.lean).
  GIVEN WITH THE SEED: the statements are not yours to turn. If you find one false, say at which input.
  Laid BY PROGRAM, IN A SANDBOX (cutbox-rows.mjs): the forced cells as the released guide's own fill.sh prints them over the translation 7c5ed67c218deefb… (all of the seat's roots in one cut). By AI agents, Wed Nov 11 2026. No macro, syntax, notation, axiom, sorry.
-/
import Derived.Test.YtkehoabgejdpgaaChecked
import GoSem.Claim
import GoSem.ClaimJoined
import GoSem.ClaimMapViews
import Derived.JoinedTies
import Derived.KernelRfl
namespace Go.Proofs.Ytkehoabgejdpgaa
/- THE CELL 'sum', in the pinned program and in every row, IS THE sha256 OF THE DUMP (.gsa) THAT YtkehoabgejdpgaaProg.lean LOADS. Nothing in Lean hashes anything: it is a label: what it is worth is what the hold of that sum in a sandbox is worth. -/
noncomputable def Try.pinned : Pinned := { name := "ytkehoabgejdpgaa", sum := "7c5ed67c218deefb60ce17fa72a674ce8f68b9d186e33c79035ec131bdbc77a3", checked := Try.checked }
namespace Rows
def none {H : Type} : Left H := { results := [], args := [] }

/-- 'butterylaw14.OrderAll': WHATEVER THE INPUT: true; the input reads as it did. -/
def orderAllSpec : ChangeSpec := { name := "orderAll", fn := fun _ => fun
  | [d1, d2, d3] => { results := [.lit (.bool true)], args := [d1, d2, d3] }
  | _ => none }
def orderAllRow : OpenClaim := { program := "ytkehoabgejdpgaa", sum := "7c5ed67c218deefb60ce17fa72a674ce8f68b9d186e33c79035ec131bdbc77a3", func := "buttery/butterylaw14.OrderAll", spec := "orderAll", unfollowed := true, recurses := true, apart := false }
def OrderAllSaid : Prop := orderAllRow.holds Try.pinned (OpenSpec.ofChange orderAllSpec)

/-- ITS FALSE NEIGHBOUR: 'it returns false'. Refute it at one input. -/
def orderAllWrong : ChangeSpec := { name := "orderAll", fn := fun _ => fun
  | [d1, d2, d3] => { results := [.lit (.bool false)], args := [d1, d2, d3] }
  | _ => none }
def OrderAllWrongFalsely : Prop := orderAllRow.holds Try.pinned (OpenSpec.ofChange orderAllWrong)

/-- 'butterylaw14.OrderChain': WHATEVER THE INPUT: true; the input reads as it did. -/
def orderChainSpec : ChangeSpec := { name := "orderChain", fn := fun _ => fun
  | [d1, d2] => { results := [.lit (.bool true)], args := [d1, d2] }
  | _ => none }
def orderChainRow : OpenClaim := { program := "ytkehoabgejdpgaa", sum := "7c5ed67c218deefb60ce17fa72a674ce8f68b9d186e33c79035ec131bdbc77a3", func := "buttery/butterylaw14.OrderChain", spec := "orderChain", unfollowed := true, recurses := true, apart := false }
def OrderChainSaid : Prop := orderChainRow.holds Try.pinned (OpenSpec.ofChange orderChainSpec)

/-- ITS FALSE NEIGHBOUR: 'it returns false'. Refute it at one input. -/
def orderChainWrong : ChangeSpec := { name := "orderChain", fn := fun _ => fun
  | [d1, d2] => { results := [.lit (.bool false)], args := [d1, d2] }
  | _ => none }
def OrderChainWrongFalsely : Prop := orderChainRow.holds Try.pinned (OpenSpec.ofChange orderChainWrong)

/-- 'butterylaw14.OrderAny': WHATEVER THE INPUT: true; the input reads as it did. -/
def orderAnySpec : ChangeSpec := { name := "orderAny", fn := fun _ => fun
  | [d1, d2, d3] => { results := [.lit (.bool true)], args := [d1, d2, d3] }
  | _ => none }
def orderAnyRow : OpenClaim := { program := "ytkehoabgejdpgaa", sum := "7c5ed67c218deefb60ce17fa72a674ce8f68b9d186e33c79035ec131bdbc77a3", func := "buttery/butterylaw14.OrderAny", spec := "orderAny", unfollowed := true, recurses := true, apart := false }
def OrderAnySaid : Prop := orderAnyRow.holds Try.pinned (OpenSpec.ofChange orderAnySpec)

/-- ITS FALSE NEIGHBOUR: 'it returns false'. Refute it at one input. -/
def orderAnyWrong : ChangeSpec := { name := "orderAny", fn := fun _ => fun
  | [d1, d2, d3] => { results := [.lit (.bool false)], args := [d1, d2, d3] }
  | _ => none }
def OrderAnyWrongFalsely : Prop := orderAnyRow.holds Try.pinned (OpenSpec.ofChange orderAnyWrong)

/-- 'butterylaw14.OrderTwice': WHATEVER THE INPUT: true; the input reads as it did. -/
def orderTwiceSpec : ChangeSpec := { name := "orderTwice", fn := fun _ => fun
  | [d1, d2] => { results := [.lit (.bool true)], args := [d1, d2] }
  | _ => none }
def orderTwiceRow : OpenClaim := { program := "ytkehoabgejdpgaa", sum := "7c5ed67c218deefb60ce17fa72a674ce8f68b9d186e33c79035ec131bdbc77a3", func := "buttery/butterylaw14.OrderTwice", spec := "orderTwice", unfollowed := true, recurses := true, apart := false }
def OrderTwiceSaid : Prop := orderTwiceRow.holds Try.pinned (OpenSpec.ofChange orderTwiceSpec)

/-- ITS FALSE NEIGHBOUR: 'it returns false'. Refute it at one input. -/
def orderTwiceWrong : ChangeSpec := { name := "orderTwice", fn := fun _ => fun
  | [d1, d2] => { results := [.lit (.bool false)], args := [d1, d2] }
  | _ => none }
def OrderTwiceWrongFalsely : Prop := orderTwiceRow.holds Try.pinned (OpenSpec.ofChange orderTwiceWrong)

/-- 'butterylaw14.OrderDoubled': WHATEVER THE INPUT: true; the input reads as it did. -/
def orderDoubledSpec : ChangeSpec := { name := "orderDoubled", fn := fun _ => fun
  | [d1, d2] => { results := [.lit (.bool true)], args := [d1, d2] }
  | _ => none }
def orderDoubledRow : OpenClaim := { program := "ytkehoabgejdpgaa", sum := "7c5ed67c218deefb60ce17fa72a674ce8f68b9d186e33c79035ec131bdbc77a3", func := "buttery/butterylaw14.OrderDoubled", spec := "orderDoubled", unfollowed := true, recurses := true, apart := false }
def OrderDoubledSaid : Prop := orderDoubledRow.holds Try.pinned (OpenSpec.ofChange orderDoubledSpec)

/-- ITS FALSE NEIGHBOUR: 'it returns false'. Refute it at one input. -/
def orderDoubledWrong : ChangeSpec := { name := "orderDoubled", fn := fun _ => fun
  | [d1, d2] => { results := [.lit (.bool false)], args := [d1, d2] }
  | _ => none }
def OrderDoubledWrongFalsely : Prop := orderDoubledRow.holds Try.pinned (OpenSpec.ofChange orderDoubledWrong)

/-- 'butterylaw20.QueueAll': WHATEVER THE INPUT: true; the input reads as it did. -/
def queueAllSpec : ChangeSpec := { name := "queueAll", fn := fun _ => fun
  | [d1, d2, d3, d4] => { results := [.lit (.bool true)], args := [d1, d2, d3, d4] }
  | _ => none }
def queueAllRow : OpenClaim := { program := "ytkehoabgejdpgaa", sum := "7c5ed67c218deefb60ce17fa72a674ce8f68b9d186e33c79035ec131bdbc77a3", func := "buttery/butterylaw20.QueueAll", spec := "queueAll", unfollowed := true, recurses := true, apart := false }
def QueueAllSaid : Prop := queueAllRow.holds Try.pinned (OpenSpec.ofChange queueAllSpec)

/-- ITS FALSE NEIGHBOUR: 'it returns false'. Refute it at one input. -/
def queueAllWrong : ChangeSpec := { name := "queueAll", fn := fun _ => fun
  | [d1, d2, d3, d4] => { results := [.lit (.bool false)], args := [d1, d2, d3, d4] }
  | _ => none }
def QueueAllWrongFalsely : Prop := queueAllRow.holds Try.pinned (OpenSpec.ofChange queueAllWrong)

/-- 'butterylaw20.QueueKeeps': WHATEVER THE INPUT: true; the input reads as it did. -/
def queueKeepsSpec : ChangeSpec := { name := "queueKeeps", fn := fun _ => fun
  | [d1, d2] => { results := [.lit (.bool true)], args := [d1, d2] }
  | _ => none }
def queueKeepsRow : OpenClaim := { program := "ytkehoabgejdpgaa", sum := "7c5ed67c218deefb60ce17fa72a674ce8f68b9d186e33c79035ec131bdbc77a3", func := "buttery/butterylaw20.QueueKeeps", spec := "queueKeeps", unfollowed := true, recurses := true, apart := false }
def QueueKeepsSaid : Prop := queueKeepsRow.holds Try.pinned (OpenSpec.ofChange queueKeepsSpec)

/-- ITS FALSE NEIGHBOUR: 'it returns false'. Refute it at one input. -/
def queueKeepsWrong : ChangeSpec := { name := "queueKeeps", fn := fun _ => fun
  | [d1, d2] => { results := [.lit (.bool false)], args := [d1, d2] }
  | _ => none }
def QueueKeepsWrongFalsely : Prop := queueKeepsRow.holds Try.pinned (OpenSpec.ofChange queueKeepsWrong)

/-- 'butterylaw20.QueueHeard': WHATEVER THE INPUT: true; the input reads as it did. -/
def queueHeardSpec : ChangeSpec := { name := "queueHeard", fn := fun _ => fun
  | [d1, d2, d3] => { results := [.lit (.bool true)], args := [d1, d2, d3] }
  | _ => none }
def queueHeardRow : OpenClaim := { program := "ytkehoabgejdpgaa", sum := "7c5ed67c218deefb60ce17fa72a674ce8f68b9d186e33c79035ec131bdbc77a3", func := "buttery/butterylaw20.QueueHeard", spec := "queueHeard", unfollowed := true, recurses := true, apart := false }
def QueueHeardSaid : Prop := queueHeardRow.holds Try.pinned (OpenSpec.ofChange queueHeardSpec)

/-- ITS FALSE NEIGHBOUR: 'it returns false'. Refute it at one input. -/
def queueHeardWrong : ChangeSpec := { name := "queueHeard", fn := fun _ => fun
  | [d1, d2, d3] => { results := [.lit (.bool false)], args := [d1, d2, d3] }
  | _ => none }
def QueueHeardWrongFalsely : Prop := queueHeardRow.holds Try.pinned (OpenSpec.ofChange queueHeardWrong)

/-- 'butterylaw16.PastGrows': WHATEVER THE INPUT: true; the input reads as it did. -/
def pastGrowsSpec : ChangeSpec := { name := "pastGrows", fn := fun _ => fun
  | [d1, d2, d3] => { results := [.lit (.bool true)], args := [d1, d2, d3] }
  | _ => none }
def pastGrowsRow : OpenClaim := { program := "ytkehoabgejdpgaa", sum := "7c5ed67c218deefb60ce17fa72a674ce8f68b9d186e33c79035ec131bdbc77a3", func := "buttery/butterylaw16.PastGrows", spec := "pastGrows", unfollowed := true, recurses := true, apart := false }
def PastGrowsSaid : Prop := pastGrowsRow.holds Try.pinned (OpenSpec.ofChange pastGrowsSpec)

/-- ITS FALSE NEIGHBOUR: 'it returns false'. Refute it at one input. -/
def pastGrowsWrong : ChangeSpec := { name := "pastGrows", fn := fun _ => fun
  | [d1, d2, d3] => { results := [.lit (.bool false)], args := [d1, d2, d3] }
  | _ => none }
def PastGrowsWrongFalsely : Prop := pastGrowsRow.holds Try.pinned (OpenSpec.ofChange pastGrowsWrong)

/-- 'butterylaw16.PastKeeps': WHATEVER THE INPUT: true; the input reads as it did. -/
def pastKeepsSpec : ChangeSpec := { name := "pastKeeps", fn := fun _ => fun
  | [d1, d2] => { results := [.lit (.bool true)], args := [d1, d2] }
  | _ => none }
def pastKeepsRow : OpenClaim := { program := "ytkehoabgejdpgaa", sum := "7c5ed67c218deefb60ce17fa72a674ce8f68b9d186e33c79035ec131bdbc77a3", func := "buttery/butterylaw16.PastKeeps", spec := "pastKeeps", unfollowed := true, recurses := true, apart := false }
def PastKeepsSaid : Prop := pastKeepsRow.holds Try.pinned (OpenSpec.ofChange pastKeepsSpec)

/-- ITS FALSE NEIGHBOUR: 'it returns false'. Refute it at one input. -/
def pastKeepsWrong : ChangeSpec := { name := "pastKeeps", fn := fun _ => fun
  | [d1, d2] => { results := [.lit (.bool false)], args := [d1, d2] }
  | _ => none }
def PastKeepsWrongFalsely : Prop := pastKeepsRow.holds Try.pinned (OpenSpec.ofChange pastKeepsWrong)

/-- 'butterylaw16.PastAll': WHATEVER THE INPUT: true; the input reads as it did. -/
def pastAllSpec : ChangeSpec := { name := "pastAll", fn := fun _ => fun
  | [d1, d2, d3] => { results := [.lit (.bool true)], args := [d1, d2, d3] }
  | _ => none }
def pastAllRow : OpenClaim := { program := "ytkehoabgejdpgaa", sum := "7c5ed67c218deefb60ce17fa72a674ce8f68b9d186e33c79035ec131bdbc77a3", func := "buttery/butterylaw16.PastAll", spec := "pastAll", unfollowed := true, recurses := true, apart := false }
def PastAllSaid : Prop := pastAllRow.holds Try.pinned (OpenSpec.ofChange pastAllSpec)

/-- ITS FALSE NEIGHBOUR: 'it returns false'. Refute it at one input. -/
def pastAllWrong : ChangeSpec := { name := "pastAll", fn := fun _ => fun
  | [d1, d2, d3] => { results := [.lit (.bool false)], args := [d1, d2, d3] }
  | _ => none }
def PastAllWrongFalsely : Prop := pastAllRow.holds Try.pinned (OpenSpec.ofChange pastAllWrong)

/-- 'butterylaw16.PastPruned': WHATEVER THE INPUT: true; the input reads as it did. -/
def pastPrunedSpec : ChangeSpec := { name := "pastPruned", fn := fun _ => fun
  | [d1, d2, d3] => { results := [.lit (.bool true)], args := [d1, d2, d3] }
  | _ => none }
def pastPrunedRow : OpenClaim := { program := "ytkehoabgejdpgaa", sum := "7c5ed67c218deefb60ce17fa72a674ce8f68b9d186e33c79035ec131bdbc77a3", func := "buttery/butterylaw16.PastPruned", spec := "pastPruned", unfollowed := true, recurses := true, apart := false }
def PastPrunedSaid : Prop := pastPrunedRow.holds Try.pinned (OpenSpec.ofChange pastPrunedSpec)

/-- ITS FALSE NEIGHBOUR: 'it returns false'. Refute it at one input. -/
def pastPrunedWrong : ChangeSpec := { name := "pastPruned", fn := fun _ => fun
  | [d1, d2, d3] => { results := [.lit (.bool false)], args := [d1, d2, d3] }
  | _ => none }
def PastPrunedWrongFalsely : Prop := pastPrunedRow.holds Try.pinned (OpenSpec.ofChange pastPrunedWrong)

/-- 'butterylaw16.PastTwice': WHATEVER THE INPUT: true; the input reads as it did. -/
def pastTwiceSpec : ChangeSpec := { name := "pastTwice", fn := fun _ => fun
  | [d1, d2] => { results := [.lit (.bool true)], args := [d1, d2] }
  | _ => none }
def pastTwiceRow : OpenClaim := { program := "ytkehoabgejdpgaa", sum := "7c5ed67c218deefb60ce17fa72a674ce8f68b9d186e33c79035ec131bdbc77a3", func := "buttery/butterylaw16.PastTwice", spec := "pastTwice", unfollowed := true, recurses := true, apart := false }
def PastTwiceSaid : Prop := pastTwiceRow.holds Try.pinned (OpenSpec.ofChange pastTwiceSpec)

/-- ITS FALSE NEIGHBOUR: 'it returns false'. Refute it at one input. -/
def pastTwiceWrong : ChangeSpec := { name := "pastTwice", fn := fun _ => fun
  | [d1, d2] => { results := [.lit (.bool false)], args := [d1, d2] }
  | _ => none }
def PastTwiceWrongFalsely : Prop := pastTwiceRow.holds Try.pinned (OpenSpec.ofChange pastTwiceWrong)

/- THE SECOND FORM. 'bulk': how many values and letters a reading holds, each counted each time it is reached (what is shared counts as often as it is met; a slice's spare places count too). A statement '..UptoSaid' is the law's where the arguments, and the package variables that the reading takes, are together of bulk at most 1048576: NARROWER than '..Said'. Prove '..Said' where nothing that the law and all that it calls make is longer than what came in: it says more and counts as full. Else prove '..UptoSaid'. A law counts once. -/
mutual
def uptoBulk {H : Type} : DataW H → Nat
  | .lit (.string bytes) => bytes.length + 1
  | .lit _ => 1
  | .nil => 1
  | .ptr d => uptoBulk d + 1
  | .slice elems spare => uptoBulkAll elems + uptoBulkAll spare + 1
  | .agg parts => uptoBulkAll parts + 1
  | .iface _ d => uptoBulk d + 1
  | .map entries => uptoBulkEntries entries + 1
  | .held _ => 1
def uptoBulkAll {H : Type} : List (DataW H) → Nat
  | [] => 0
  | d :: r => uptoBulk d + uptoBulkAll r
def uptoBulkEntries {H : Type} : List (Lit × DataW H) → Nat
  | [] => 0
  | x :: r => uptoBulkEntry x + uptoBulkEntries r
def uptoBulkEntry {H : Type} : Lit × DataW H → Nat
  | (.string bytes, d) => bytes.length + uptoBulk d + 1
  | (_, d) => uptoBulk d + 1
 end
def uptoSmall : (H : Type) → List (DataW H) → Bool := fun _ ds => decide (uptoBulkAll ds ≤ 1048576)
def OpenSpec.upto (s : _root_.Go.ChangeSpec) : _root_.Go.OpenSpec := { _root_.Go.OpenSpec.ofChange s with cond := some uptoSmall }

/-- 'butterylaw14.OrderAll', WHERE WHAT IT READS IS OF BULK AT MOST 1048576: true; the input reads as it did. -/
def orderAllUptoRow : OpenClaim := { program := "ytkehoabgejdpgaa", sum := "7c5ed67c218deefb60ce17fa72a674ce8f68b9d186e33c79035ec131bdbc77a3", func := "buttery/butterylaw14.OrderAll", spec := "orderAll", unfollowed := true, recurses := true, apart := false, narrowed := true }
def OrderAllUptoSaid : Prop := orderAllUptoRow.holds Try.pinned (OpenSpec.upto orderAllSpec)

/-- 'butterylaw14.OrderChain', WHERE WHAT IT READS IS OF BULK AT MOST 1048576: true; the input reads as it did. -/
def orderChainUptoRow : OpenClaim := { program := "ytkehoabgejdpgaa", sum := "7c5ed67c218deefb60ce17fa72a674ce8f68b9d186e33c79035ec131bdbc77a3", func := "buttery/butterylaw14.OrderChain", spec := "orderChain", unfollowed := true, recurses := true, apart := false, narrowed := true }
def OrderChainUptoSaid : Prop := orderChainUptoRow.holds Try.pinned (OpenSpec.upto orderChainSpec)

/-- 'butterylaw14.OrderAny', WHERE WHAT IT READS IS OF BULK AT MOST 1048576: true; the input reads as it did. -/
def orderAnyUptoRow : OpenClaim := { program := "ytkehoabgejdpgaa", sum := "7c5ed67c218deefb60ce17fa72a674ce8f68b9d186e33c79035ec131bdbc77a3", func := "buttery/butterylaw14.OrderAny", spec := "orderAny", unfollowed := true, recurses := true, apart := false, narrowed := true }
def OrderAnyUptoSaid : Prop := orderAnyUptoRow.holds Try.pinned (OpenSpec.upto orderAnySpec)

/-- 'butterylaw14.OrderTwice', WHERE WHAT IT READS IS OF BULK AT MOST 1048576: true; the input reads as it did. -/
def orderTwiceUptoRow : OpenClaim := { program := "ytkehoabgejdpgaa", sum := "7c5ed67c218deefb60ce17fa72a674ce8f68b9d186e33c79035ec131bdbc77a3", func := "buttery/butterylaw14.OrderTwice", spec := "orderTwice", unfollowed := true, recurses := true, apart := false, narrowed := true }
def OrderTwiceUptoSaid : Prop := orderTwiceUptoRow.holds Try.pinned (OpenSpec.upto orderTwiceSpec)

/-- 'butterylaw14.OrderDoubled', WHERE WHAT IT READS IS OF BULK AT MOST 1048576: true; the input reads as it did. -/
def orderDoubledUptoRow : OpenClaim := { program := "ytkehoabgejdpgaa", sum := "7c5ed67c218deefb60ce17fa72a674ce8f68b9d186e33c79035ec131bdbc77a3", func := "buttery/butterylaw14.OrderDoubled", spec := "orderDoubled", unfollowed := true, recurses := true, apart := false, narrowed := true }
def OrderDoubledUptoSaid : Prop := orderDoubledUptoRow.holds Try.pinned (OpenSpec.upto orderDoubledSpec)

/-- 'butterylaw20.QueueAll', WHERE WHAT IT READS IS OF BULK AT MOST 1048576: true; the input reads as it did. -/
def queueAllUptoRow : OpenClaim := { program := "ytkehoabgejdpgaa", sum := "7c5ed67c218deefb60ce17fa72a674ce8f68b9d186e33c79035ec131bdbc77a3", func := "buttery/butterylaw20.QueueAll", spec := "queueAll", unfollowed := true, recurses := true, apart := false, narrowed := true }
def QueueAllUptoSaid : Prop := queueAllUptoRow.holds Try.pinned (OpenSpec.upto queueAllSpec)

/-- 'butterylaw20.QueueKeeps', WHERE WHAT IT READS IS OF BULK AT MOST 1048576: true; the input reads as it did. -/
def queueKeepsUptoRow : OpenClaim := { program := "ytkehoabgejdpgaa", sum := "7c5ed67c218deefb60ce17fa72a674ce8f68b9d186e33c79035ec131bdbc77a3", func := "buttery/butterylaw20.QueueKeeps", spec := "queueKeeps", unfollowed := true, recurses := true, apart := false, narrowed := true }
def QueueKeepsUptoSaid : Prop := queueKeepsUptoRow.holds Try.pinned (OpenSpec.upto queueKeepsSpec)

/-- 'butterylaw20.QueueHeard', WHERE WHAT IT READS IS OF BULK AT MOST 1048576: true; the input reads as it did. -/
def queueHeardUptoRow : OpenClaim := { program := "ytkehoabgejdpgaa", sum := "7c5ed67c218deefb60ce17fa72a674ce8f68b9d186e33c79035ec131bdbc77a3", func := "buttery/butterylaw20.QueueHeard", spec := "queueHeard", unfollowed := true, recurses := true, apart := false, narrowed := true }
def QueueHeardUptoSaid : Prop := queueHeardUptoRow.holds Try.pinned (OpenSpec.upto queueHeardSpec)

/-- 'butterylaw16.PastGrows', WHERE WHAT IT READS IS OF BULK AT MOST 1048576: true; the input reads as it did. -/
def pastGrowsUptoRow : OpenClaim := { program := "ytkehoabgejdpgaa", sum := "7c5ed67c218deefb60ce17fa72a674ce8f68b9d186e33c79035ec131bdbc77a3", func := "buttery/butterylaw16.PastGrows", spec := "pastGrows", unfollowed := true, recurses := true, apart := false, narrowed := true }
def PastGrowsUptoSaid : Prop := pastGrowsUptoRow.holds Try.pinned (OpenSpec.upto pastGrowsSpec)

/-- 'butterylaw16.PastKeeps', WHERE WHAT IT READS IS OF BULK AT MOST 1048576: true; the input reads as it did. -/
def pastKeepsUptoRow : OpenClaim := { program := "ytkehoabgejdpgaa", sum := "7c5ed67c218deefb60ce17fa72a674ce8f68b9d186e33c79035ec131bdbc77a3", func := "buttery/butterylaw16.PastKeeps", spec := "pastKeeps", unfollowed := true, recurses := true, apart := false, narrowed := true }
def PastKeepsUptoSaid : Prop := pastKeepsUptoRow.holds Try.pinned (OpenSpec.upto pastKeepsSpec)

/-- 'butterylaw16.PastAll', WHERE WHAT IT READS IS OF BULK AT MOST 1048576: true; the input reads as it did. -/
def pastAllUptoRow : OpenClaim := { program := "ytkehoabgejdpgaa", sum := "7c5ed67c218deefb60ce17fa72a674ce8f68b9d186e33c79035ec131bdbc77a3", func := "buttery/butterylaw16.PastAll", spec := "pastAll", unfollowed := true, recurses := true, apart := false, narrowed := true }
def PastAllUptoSaid : Prop := pastAllUptoRow.holds Try.pinned (OpenSpec.upto pastAllSpec)

/-- 'butterylaw16.PastPruned', WHERE WHAT IT READS IS OF BULK AT MOST 1048576: true; the input reads as it did. -/
def pastPrunedUptoRow : OpenClaim := { program := "ytkehoabgejdpgaa", sum := "7c5ed67c218deefb60ce17fa72a674ce8f68b9d186e33c79035ec131bdbc77a3", func := "buttery/butterylaw16.PastPruned", spec := "pastPruned", unfollowed := true, recurses := true, apart := false, narrowed := true }
def PastPrunedUptoSaid : Prop := pastPrunedUptoRow.holds Try.pinned (OpenSpec.upto pastPrunedSpec)

/-- 'butterylaw16.PastTwice', WHERE WHAT IT READS IS OF BULK AT MOST 1048576: true; the input reads as it did. -/
def pastTwiceUptoRow : OpenClaim := { program := "ytkehoabgejdpgaa", sum := "7c5ed67c218deefb60ce17fa72a674ce8f68b9d186e33c79035ec131bdbc77a3", func := "buttery/butterylaw16.PastTwice", spec := "pastTwice", unfollowed := true, recurses := true, apart := false, narrowed := true }
def PastTwiceUptoSaid : Prop := pastTwiceUptoRow.holds Try.pinned (OpenSpec.upto pastTwiceSpec)

end Rows
end Go.Proofs.Ytkehoabgejdpgaa
