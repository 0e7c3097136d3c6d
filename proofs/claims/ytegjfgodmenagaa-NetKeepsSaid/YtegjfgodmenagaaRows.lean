/-
  No cell of these rows narrows 'for every input' (looked for: loops, veiled, ifaces, maps, wideKeys, modest, calm, conditions, laid).
  DERIVED. THE GIVEN ROWS OF THIS SEAT. 13 by the template 'for every input the law returns true; each argument reads behind the call as it read before'; 0 by the template 'total and deterministic' (their statements: YtegjfgodmenagaaTotals.lean).
  GIVEN WITH THE SEED: the statements are not yours to turn. If you find one false, say at which input.
  Laid BY PROGRAM, IN A SANDBOX (cutbox-rows.mjs): the forced cells as the released guide's own fill.sh prints them over the translation 2aa9bf0815538ece… (all of the seat's roots in one cut). By AI agents, Wed Nov 11 2026. No macro, syntax, notation, axiom, sorry.
-/
import Derived.Test.YtegjfgodmenagaaChecked
import GoSem.Claim
import GoSem.ClaimJoined
import GoSem.ClaimMapViews
import Derived.JoinedTies
import Derived.KernelRfl
namespace Go.Proofs.Ytegjfgodmenagaa
/- THE CELL 'sum', in the pinned program and in every row, IS THE sha256 OF THE DUMP (.gsa) THAT YtegjfgodmenagaaProg.lean LOADS. Nothing in Lean hashes anything: it is a label: what it is worth is what the hold of that sum in a sandbox is worth. -/
noncomputable def Try.pinned : Pinned := { name := "ytegjfgodmenagaa", sum := "2aa9bf0815538ece819284d1b8ac0bec6f5664b93063c14c904f605a34d5ab08", checked := Try.checked }
namespace Rows
def none {H : Type} : Left H := { results := [], args := [] }

/-- 'butterylaw18.NetAll': WHATEVER THE INPUT: true; the input reads as it did. -/
def netAllSpec : ChangeSpec := { name := "netAll", fn := fun _ => fun
  | [d1, d2, d3] => { results := [.lit (.bool true)], args := [d1, d2, d3] }
  | _ => none }
def netAllRow : OpenClaim := { program := "ytegjfgodmenagaa", sum := "2aa9bf0815538ece819284d1b8ac0bec6f5664b93063c14c904f605a34d5ab08", func := "buttery/butterylaw18.NetAll", spec := "netAll", apart := false }
def NetAllSaid : Prop := netAllRow.holds Try.pinned (OpenSpec.ofChange netAllSpec)

/-- ITS FALSE NEIGHBOUR: 'it returns false'. Refute it at one input. -/
def netAllWrong : ChangeSpec := { name := "netAll", fn := fun _ => fun
  | [d1, d2, d3] => { results := [.lit (.bool false)], args := [d1, d2, d3] }
  | _ => none }
def NetAllWrongFalsely : Prop := netAllRow.holds Try.pinned (OpenSpec.ofChange netAllWrong)

/-- 'butterylaw18.NetKeeps': WHATEVER THE INPUT: true; the input reads as it did. -/
def netKeepsSpec : ChangeSpec := { name := "netKeeps", fn := fun _ => fun
  | [d] => { results := [.lit (.bool true)], args := [d] }
  | _ => none }
def netKeepsRow : OpenClaim := { program := "ytegjfgodmenagaa", sum := "2aa9bf0815538ece819284d1b8ac0bec6f5664b93063c14c904f605a34d5ab08", func := "buttery/butterylaw18.NetKeeps", spec := "netKeeps", apart := false }
def NetKeepsSaid : Prop := netKeepsRow.holds Try.pinned (OpenSpec.ofChange netKeepsSpec)

/-- ITS FALSE NEIGHBOUR: 'it returns false'. Refute it at one input. -/
def netKeepsWrong : ChangeSpec := { name := "netKeeps", fn := fun _ => fun
  | [d] => { results := [.lit (.bool false)], args := [d] }
  | _ => none }
def NetKeepsWrongFalsely : Prop := netKeepsRow.holds Try.pinned (OpenSpec.ofChange netKeepsWrong)

/-- 'butterylaw18.NetDoubled': WHATEVER THE INPUT: true; the input reads as it did. -/
def netDoubledSpec : ChangeSpec := { name := "netDoubled", fn := fun _ => fun
  | [d1, d2, d3] => { results := [.lit (.bool true)], args := [d1, d2, d3] }
  | _ => none }
def netDoubledRow : OpenClaim := { program := "ytegjfgodmenagaa", sum := "2aa9bf0815538ece819284d1b8ac0bec6f5664b93063c14c904f605a34d5ab08", func := "buttery/butterylaw18.NetDoubled", spec := "netDoubled", apart := false }
def NetDoubledSaid : Prop := netDoubledRow.holds Try.pinned (OpenSpec.ofChange netDoubledSpec)

/-- ITS FALSE NEIGHBOUR: 'it returns false'. Refute it at one input. -/
def netDoubledWrong : ChangeSpec := { name := "netDoubled", fn := fun _ => fun
  | [d1, d2, d3] => { results := [.lit (.bool false)], args := [d1, d2, d3] }
  | _ => none }
def NetDoubledWrongFalsely : Prop := netDoubledRow.holds Try.pinned (OpenSpec.ofChange netDoubledWrong)

/-- 'butterylaw04.FrameLays': WHATEVER THE INPUT: true; the input reads as it did. -/
def frameLaysSpec : ChangeSpec := { name := "frameLays", fn := fun _ => fun
  | [d1, d2] => { results := [.lit (.bool true)], args := [d1, d2] }
  | _ => none }
def frameLaysRow : OpenClaim := { program := "ytegjfgodmenagaa", sum := "2aa9bf0815538ece819284d1b8ac0bec6f5664b93063c14c904f605a34d5ab08", func := "buttery/butterylaw04.FrameLays", spec := "frameLays", apart := false }
def FrameLaysSaid : Prop := frameLaysRow.holds Try.pinned (OpenSpec.ofChange frameLaysSpec)

/-- ITS FALSE NEIGHBOUR: 'it returns false'. Refute it at one input. -/
def frameLaysWrong : ChangeSpec := { name := "frameLays", fn := fun _ => fun
  | [d1, d2] => { results := [.lit (.bool false)], args := [d1, d2] }
  | _ => none }
def FrameLaysWrongFalsely : Prop := frameLaysRow.holds Try.pinned (OpenSpec.ofChange frameLaysWrong)

/-- 'butterylaw04.FrameScans': WHATEVER THE INPUT: true; the input reads as it did. -/
def frameScansSpec : ChangeSpec := { name := "frameScans", fn := fun _ => fun
  | [d] => { results := [.lit (.bool true)], args := [d] }
  | _ => none }
def frameScansRow : OpenClaim := { program := "ytegjfgodmenagaa", sum := "2aa9bf0815538ece819284d1b8ac0bec6f5664b93063c14c904f605a34d5ab08", func := "buttery/butterylaw04.FrameScans", spec := "frameScans", apart := false }
def FrameScansSaid : Prop := frameScansRow.holds Try.pinned (OpenSpec.ofChange frameScansSpec)

/-- ITS FALSE NEIGHBOUR: 'it returns false'. Refute it at one input. -/
def frameScansWrong : ChangeSpec := { name := "frameScans", fn := fun _ => fun
  | [d] => { results := [.lit (.bool false)], args := [d] }
  | _ => none }
def FrameScansWrongFalsely : Prop := frameScansRow.holds Try.pinned (OpenSpec.ofChange frameScansWrong)

/-- 'butterylaw04.FrameTorn': WHATEVER THE INPUT: true; the input reads as it did. -/
def frameTornSpec : ChangeSpec := { name := "frameTorn", fn := fun _ => fun
  | [d1, d2] => { results := [.lit (.bool true)], args := [d1, d2] }
  | _ => none }
def frameTornRow : OpenClaim := { program := "ytegjfgodmenagaa", sum := "2aa9bf0815538ece819284d1b8ac0bec6f5664b93063c14c904f605a34d5ab08", func := "buttery/butterylaw04.FrameTorn", spec := "frameTorn", apart := false }
def FrameTornSaid : Prop := frameTornRow.holds Try.pinned (OpenSpec.ofChange frameTornSpec)

/-- ITS FALSE NEIGHBOUR: 'it returns false'. Refute it at one input. -/
def frameTornWrong : ChangeSpec := { name := "frameTorn", fn := fun _ => fun
  | [d1, d2] => { results := [.lit (.bool false)], args := [d1, d2] }
  | _ => none }
def FrameTornWrongFalsely : Prop := frameTornRow.holds Try.pinned (OpenSpec.ofChange frameTornWrong)

/-- 'butterylaw04.FrameTurned': WHATEVER THE INPUT: true; the input reads as it did. -/
def frameTurnedSpec : ChangeSpec := { name := "frameTurned", fn := fun _ => fun
  | [d1, d2, d3, d4] => { results := [.lit (.bool true)], args := [d1, d2, d3, d4] }
  | _ => none }
def frameTurnedRow : OpenClaim := { program := "ytegjfgodmenagaa", sum := "2aa9bf0815538ece819284d1b8ac0bec6f5664b93063c14c904f605a34d5ab08", func := "buttery/butterylaw04.FrameTurned", spec := "frameTurned", apart := false }
def FrameTurnedSaid : Prop := frameTurnedRow.holds Try.pinned (OpenSpec.ofChange frameTurnedSpec)

/-- ITS FALSE NEIGHBOUR: 'it returns false'. Refute it at one input. -/
def frameTurnedWrong : ChangeSpec := { name := "frameTurned", fn := fun _ => fun
  | [d1, d2, d3, d4] => { results := [.lit (.bool false)], args := [d1, d2, d3, d4] }
  | _ => none }
def FrameTurnedWrongFalsely : Prop := frameTurnedRow.holds Try.pinned (OpenSpec.ofChange frameTurnedWrong)

/-- 'butterylaw04.FrameLong': WHATEVER THE INPUT: true; the input reads as it did. -/
def frameLongSpec : ChangeSpec := { name := "frameLong", fn := fun _ => fun
  | [d] => { results := [.lit (.bool true)], args := [d] }
  | _ => none }
def frameLongRow : OpenClaim := { program := "ytegjfgodmenagaa", sum := "2aa9bf0815538ece819284d1b8ac0bec6f5664b93063c14c904f605a34d5ab08", func := "buttery/butterylaw04.FrameLong", spec := "frameLong", apart := false }
def FrameLongSaid : Prop := frameLongRow.holds Try.pinned (OpenSpec.ofChange frameLongSpec)

/-- ITS FALSE NEIGHBOUR: 'it returns false'. Refute it at one input. -/
def frameLongWrong : ChangeSpec := { name := "frameLong", fn := fun _ => fun
  | [d] => { results := [.lit (.bool false)], args := [d] }
  | _ => none }
def FrameLongWrongFalsely : Prop := frameLongRow.holds Try.pinned (OpenSpec.ofChange frameLongWrong)

/-- 'butterylaw04.FrameJoined': WHATEVER THE INPUT: true; the input reads as it did. -/
def frameJoinedSpec : ChangeSpec := { name := "frameJoined", fn := fun _ => fun
  | [d1, d2] => { results := [.lit (.bool true)], args := [d1, d2] }
  | _ => none }
def frameJoinedRow : OpenClaim := { program := "ytegjfgodmenagaa", sum := "2aa9bf0815538ece819284d1b8ac0bec6f5664b93063c14c904f605a34d5ab08", func := "buttery/butterylaw04.FrameJoined", spec := "frameJoined", apart := false }
def FrameJoinedSaid : Prop := frameJoinedRow.holds Try.pinned (OpenSpec.ofChange frameJoinedSpec)

/-- ITS FALSE NEIGHBOUR: 'it returns false'. Refute it at one input. -/
def frameJoinedWrong : ChangeSpec := { name := "frameJoined", fn := fun _ => fun
  | [d1, d2] => { results := [.lit (.bool false)], args := [d1, d2] }
  | _ => none }
def FrameJoinedWrongFalsely : Prop := frameJoinedRow.holds Try.pinned (OpenSpec.ofChange frameJoinedWrong)

/-- 'butterylaw06.JournalAll': WHATEVER THE INPUT: true; the input reads as it did. -/
def journalAllSpec : ChangeSpec := { name := "journalAll", fn := fun _ => fun
  | [d1, d2] => { results := [.lit (.bool true)], args := [d1, d2] }
  | _ => none }
def journalAllRow : OpenClaim := { program := "ytegjfgodmenagaa", sum := "2aa9bf0815538ece819284d1b8ac0bec6f5664b93063c14c904f605a34d5ab08", func := "buttery/butterylaw06.JournalAll", spec := "journalAll", apart := false }
def JournalAllSaid : Prop := journalAllRow.holds Try.pinned (OpenSpec.ofChange journalAllSpec)

/-- ITS FALSE NEIGHBOUR: 'it returns false'. Refute it at one input. -/
def journalAllWrong : ChangeSpec := { name := "journalAll", fn := fun _ => fun
  | [d1, d2] => { results := [.lit (.bool false)], args := [d1, d2] }
  | _ => none }
def JournalAllWrongFalsely : Prop := journalAllRow.holds Try.pinned (OpenSpec.ofChange journalAllWrong)

/-- 'butterylaw06.JournalKeeps': WHATEVER THE INPUT: true; the input reads as it did. -/
def journalKeepsSpec : ChangeSpec := { name := "journalKeeps", fn := fun _ => fun
  | [d] => { results := [.lit (.bool true)], args := [d] }
  | _ => none }
def journalKeepsRow : OpenClaim := { program := "ytegjfgodmenagaa", sum := "2aa9bf0815538ece819284d1b8ac0bec6f5664b93063c14c904f605a34d5ab08", func := "buttery/butterylaw06.JournalKeeps", spec := "journalKeeps", apart := false }
def JournalKeepsSaid : Prop := journalKeepsRow.holds Try.pinned (OpenSpec.ofChange journalKeepsSpec)

/-- ITS FALSE NEIGHBOUR: 'it returns false'. Refute it at one input. -/
def journalKeepsWrong : ChangeSpec := { name := "journalKeeps", fn := fun _ => fun
  | [d] => { results := [.lit (.bool false)], args := [d] }
  | _ => none }
def JournalKeepsWrongFalsely : Prop := journalKeepsRow.holds Try.pinned (OpenSpec.ofChange journalKeepsWrong)

/-- 'butterylaw06.JournalSpoilt': WHATEVER THE INPUT: true; the input reads as it did. -/
def journalSpoiltSpec : ChangeSpec := { name := "journalSpoilt", fn := fun _ => fun
  | [d1, d2, d3, d4, d5] => { results := [.lit (.bool true)], args := [d1, d2, d3, d4, d5] }
  | _ => none }
def journalSpoiltRow : OpenClaim := { program := "ytegjfgodmenagaa", sum := "2aa9bf0815538ece819284d1b8ac0bec6f5664b93063c14c904f605a34d5ab08", func := "buttery/butterylaw06.JournalSpoilt", spec := "journalSpoilt", apart := false }
def JournalSpoiltSaid : Prop := journalSpoiltRow.holds Try.pinned (OpenSpec.ofChange journalSpoiltSpec)

/-- ITS FALSE NEIGHBOUR: 'it returns false'. Refute it at one input. -/
def journalSpoiltWrong : ChangeSpec := { name := "journalSpoilt", fn := fun _ => fun
  | [d1, d2, d3, d4, d5] => { results := [.lit (.bool false)], args := [d1, d2, d3, d4, d5] }
  | _ => none }
def JournalSpoiltWrongFalsely : Prop := journalSpoiltRow.holds Try.pinned (OpenSpec.ofChange journalSpoiltWrong)

/-- 'butterylaw06.JournalMore': WHATEVER THE INPUT: true; the input reads as it did. -/
def journalMoreSpec : ChangeSpec := { name := "journalMore", fn := fun _ => fun
  | [d1, d2, d3] => { results := [.lit (.bool true)], args := [d1, d2, d3] }
  | _ => none }
def journalMoreRow : OpenClaim := { program := "ytegjfgodmenagaa", sum := "2aa9bf0815538ece819284d1b8ac0bec6f5664b93063c14c904f605a34d5ab08", func := "buttery/butterylaw06.JournalMore", spec := "journalMore", apart := false }
def JournalMoreSaid : Prop := journalMoreRow.holds Try.pinned (OpenSpec.ofChange journalMoreSpec)

/-- ITS FALSE NEIGHBOUR: 'it returns false'. Refute it at one input. -/
def journalMoreWrong : ChangeSpec := { name := "journalMore", fn := fun _ => fun
  | [d1, d2, d3] => { results := [.lit (.bool false)], args := [d1, d2, d3] }
  | _ => none }
def JournalMoreWrongFalsely : Prop := journalMoreRow.holds Try.pinned (OpenSpec.ofChange journalMoreWrong)

/- THE SECOND FORM. 'bulk': how many values and letters a reading holds, each counted each time it is reached (what is shared counts as often as it is met; a slice's spare places count too). A statement '..UptoSaid' is the law's where the arguments, and the package variables that the reading takes, are together of bulk at most 1048576: NARROWER than '..Said'. Prove '..Said' where nothing that the law and all that it calls make is longer than what came in: it says more and counts as full. Else prove '..UptoSaid'. A law counts once. -/
mutual
def uptoBulk {H : Type} : DataW H → Nat
  | .lit (.string bytes) => bytes.length + 1
  | .lit _ => 1
  | .nil => 1
  | .ptr d => uptoBulk d + 1
  | .slice elems spare => uptoBulkAll elems + uptoBulkAll spare + 1
  | .agg parts => uptoBulkAll parts + 1
  | .iface _ d => uptoBulk d + 1
  | .map entries => uptoBulkEntries entries + 1
  | .held _ => 1
def uptoBulkAll {H : Type} : List (DataW H) → Nat
  | [] => 0
  | d :: r => uptoBulk d + uptoBulkAll r
def uptoBulkEntries {H : Type} : List (Lit × DataW H) → Nat
  | [] => 0
  | x :: r => uptoBulkEntry x + uptoBulkEntries r
def uptoBulkEntry {H : Type} : Lit × DataW H → Nat
  | (.string bytes, d) => bytes.length + uptoBulk d + 1
  | (_, d) => uptoBulk d + 1
 end
def uptoSmall : (H : Type) → List (DataW H) → Bool := fun _ ds => decide (uptoBulkAll ds ≤ 1048576)
def OpenSpec.upto (s : _root_.Go.ChangeSpec) : _root_.Go.OpenSpec := { _root_.Go.OpenSpec.ofChange s with cond := some uptoSmall }

/-- 'butterylaw18.NetAll', WHERE WHAT IT READS IS OF BULK AT MOST 1048576: true; the input reads as it did. -/
def netAllUptoRow : OpenClaim := { program := "ytegjfgodmenagaa", sum := "2aa9bf0815538ece819284d1b8ac0bec6f5664b93063c14c904f605a34d5ab08", func := "buttery/butterylaw18.NetAll", spec := "netAll", apart := false, narrowed := true }
def NetAllUptoSaid : Prop := netAllUptoRow.holds Try.pinned (OpenSpec.upto netAllSpec)

/-- 'butterylaw18.NetKeeps', WHERE WHAT IT READS IS OF BULK AT MOST 1048576: true; the input reads as it did. -/
def netKeepsUptoRow : OpenClaim := { program := "ytegjfgodmenagaa", sum := "2aa9bf0815538ece819284d1b8ac0bec6f5664b93063c14c904f605a34d5ab08", func := "buttery/butterylaw18.NetKeeps", spec := "netKeeps", apart := false, narrowed := true }
def NetKeepsUptoSaid : Prop := netKeepsUptoRow.holds Try.pinned (OpenSpec.upto netKeepsSpec)

/-- 'butterylaw18.NetDoubled', WHERE WHAT IT READS IS OF BULK AT MOST 1048576: true; the input reads as it did. -/
def netDoubledUptoRow : OpenClaim := { program := "ytegjfgodmenagaa", sum := "2aa9bf0815538ece819284d1b8ac0bec6f5664b93063c14c904f605a34d5ab08", func := "buttery/butterylaw18.NetDoubled", spec := "netDoubled", apart := false, narrowed := true }
def NetDoubledUptoSaid : Prop := netDoubledUptoRow.holds Try.pinned (OpenSpec.upto netDoubledSpec)

/-- 'butterylaw04.FrameLays', WHERE WHAT IT READS IS OF BULK AT MOST 1048576: true; the input reads as it did. -/
def frameLaysUptoRow : OpenClaim := { program := "ytegjfgodmenagaa", sum := "2aa9bf0815538ece819284d1b8ac0bec6f5664b93063c14c904f605a34d5ab08", func := "buttery/butterylaw04.FrameLays", spec := "frameLays", apart := false, narrowed := true }
def FrameLaysUptoSaid : Prop := frameLaysUptoRow.holds Try.pinned (OpenSpec.upto frameLaysSpec)

/-- 'butterylaw04.FrameScans', WHERE WHAT IT READS IS OF BULK AT MOST 1048576: true; the input reads as it did. -/
def frameScansUptoRow : OpenClaim := { program := "ytegjfgodmenagaa", sum := "2aa9bf0815538ece819284d1b8ac0bec6f5664b93063c14c904f605a34d5ab08", func := "buttery/butterylaw04.FrameScans", spec := "frameScans", apart := false, narrowed := true }
def FrameScansUptoSaid : Prop := frameScansUptoRow.holds Try.pinned (OpenSpec.upto frameScansSpec)

/-- 'butterylaw04.FrameTorn', WHERE WHAT IT READS IS OF BULK AT MOST 1048576: true; the input reads as it did. -/
def frameTornUptoRow : OpenClaim := { program := "ytegjfgodmenagaa", sum := "2aa9bf0815538ece819284d1b8ac0bec6f5664b93063c14c904f605a34d5ab08", func := "buttery/butterylaw04.FrameTorn", spec := "frameTorn", apart := false, narrowed := true }
def FrameTornUptoSaid : Prop := frameTornUptoRow.holds Try.pinned (OpenSpec.upto frameTornSpec)

/-- 'butterylaw04.FrameTurned', WHERE WHAT IT READS IS OF BULK AT MOST 1048576: true; the input reads as it did. -/
def frameTurnedUptoRow : OpenClaim := { program := "ytegjfgodmenagaa", sum := "2aa9bf0815538ece819284d1b8ac0bec6f5664b93063c14c904f605a34d5ab08", func := "buttery/butterylaw04.FrameTurned", spec := "frameTurned", apart := false, narrowed := true }
def FrameTurnedUptoSaid : Prop := frameTurnedUptoRow.holds Try.pinned (OpenSpec.upto frameTurnedSpec)

/-- 'butterylaw04.FrameLong', WHERE WHAT IT READS IS OF BULK AT MOST 1048576: true; the input reads as it did. -/
def frameLongUptoRow : OpenClaim := { program := "ytegjfgodmenagaa", sum := "2aa9bf0815538ece819284d1b8ac0bec6f5664b93063c14c904f605a34d5ab08", func := "buttery/butterylaw04.FrameLong", spec := "frameLong", apart := false, narrowed := true }
def FrameLongUptoSaid : Prop := frameLongUptoRow.holds Try.pinned (OpenSpec.upto frameLongSpec)

/-- 'butterylaw04.FrameJoined', WHERE WHAT IT READS IS OF BULK AT MOST 1048576: true; the input reads as it did. -/
def frameJoinedUptoRow : OpenClaim := { program := "ytegjfgodmenagaa", sum := "2aa9bf0815538ece819284d1b8ac0bec6f5664b93063c14c904f605a34d5ab08", func := "buttery/butterylaw04.FrameJoined", spec := "frameJoined", apart := false, narrowed := true }
def FrameJoinedUptoSaid : Prop := frameJoinedUptoRow.holds Try.pinned (OpenSpec.upto frameJoinedSpec)

/-- 'butterylaw06.JournalAll', WHERE WHAT IT READS IS OF BULK AT MOST 1048576: true; the input reads as it did. -/
def journalAllUptoRow : OpenClaim := { program := "ytegjfgodmenagaa", sum := "2aa9bf0815538ece819284d1b8ac0bec6f5664b93063c14c904f605a34d5ab08", func := "buttery/butterylaw06.JournalAll", spec := "journalAll", apart := false, narrowed := true }
def JournalAllUptoSaid : Prop := journalAllUptoRow.holds Try.pinned (OpenSpec.upto journalAllSpec)

/-- 'butterylaw06.JournalKeeps', WHERE WHAT IT READS IS OF BULK AT MOST 1048576: true; the input reads as it did. -/
def journalKeepsUptoRow : OpenClaim := { program := "ytegjfgodmenagaa", sum := "2aa9bf0815538ece819284d1b8ac0bec6f5664b93063c14c904f605a34d5ab08", func := "buttery/butterylaw06.JournalKeeps", spec := "journalKeeps", apart := false, narrowed := true }
def JournalKeepsUptoSaid : Prop := journalKeepsUptoRow.holds Try.pinned (OpenSpec.upto journalKeepsSpec)

/-- 'butterylaw06.JournalSpoilt', WHERE WHAT IT READS IS OF BULK AT MOST 1048576: true; the input reads as it did. -/
def journalSpoiltUptoRow : OpenClaim := { program := "ytegjfgodmenagaa", sum := "2aa9bf0815538ece819284d1b8ac0bec6f5664b93063c14c904f605a34d5ab08", func := "buttery/butterylaw06.JournalSpoilt", spec := "journalSpoilt", apart := false, narrowed := true }
def JournalSpoiltUptoSaid : Prop := journalSpoiltUptoRow.holds Try.pinned (OpenSpec.upto journalSpoiltSpec)

/-- 'butterylaw06.JournalMore', WHERE WHAT IT READS IS OF BULK AT MOST 1048576: true; the input reads as it did. -/
def journalMoreUptoRow : OpenClaim := { program := "ytegjfgodmenagaa", sum := "2aa9bf0815538ece819284d1b8ac0bec6f5664b93063c14c904f605a34d5ab08", func := "buttery/butterylaw06.JournalMore", spec := "journalMore", apart := false, narrowed := true }
def JournalMoreUptoSaid : Prop := journalMoreUptoRow.holds Try.pinned (OpenSpec.upto journalMoreSpec)

end Rows
end Go.Proofs.Ytegjfgodmenagaa
