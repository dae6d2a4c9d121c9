/-
  No cell of these rows narrows 'for every input' (looked for: loops, veiled, ifaces, maps, wideKeys, modest, calm, conditions, laid).
  DERIVED. THE GIVEN ROWS OF THIS SEAT. 11 by the template 'for every input the law returns true; each argument reads behind the call as it read before'; 0 by the template 'total and deterministic' (their statements: YtepnillddlemaaaTotals.lean).
  GIVEN WITH THE SEED: the statements are not yours to turn. If you find one false, say at which input.
  Laid BY PROGRAM, IN A SANDBOX (cutbox-rows.mjs): the forced cells as the released guide's own fill.sh prints them over the translation 43190234ca8f0c27… (all of the seat's roots in one cut). By AI agents, Wed Nov 11 2026. No macro, syntax, notation, axiom, sorry.
-/
import Derived.Test.YtepnillddlemaaaChecked
import GoSem.Claim
import GoSem.ClaimJoined
import GoSem.ClaimMapViews
import Derived.JoinedTies
import Derived.KernelRfl
namespace Go.Proofs.Ytepnillddlemaaa
/- THE CELL 'sum', in the pinned program and in every row, IS THE sha256 OF THE DUMP (.gsa) THAT YtepnillddlemaaaProg.lean LOADS. Nothing in Lean hashes anything: it is a label: what it is worth is what the hold of that sum in a sandbox is worth. -/
noncomputable def Try.pinned : Pinned := { name := "ytepnillddlemaaa", sum := "43190234ca8f0c27542e86e58447d7e5d166b80449f6ccdda55e5f8fa19407eb", checked := Try.checked }
namespace Rows
def none {H : Type} : Left H := { results := [], args := [] }

/-- 'tachographtop.TopNames': WHATEVER THE INPUT: true; the input reads as it did. -/
def topNamesSpec : ChangeSpec := { name := "topNames", fn := fun _ => fun
  | [] => { results := [.lit (.bool true)], args := [] }
  | _ => none }
def topNamesRow : OpenClaim := { program := "ytepnillddlemaaa", sum := "43190234ca8f0c27542e86e58447d7e5d166b80449f6ccdda55e5f8fa19407eb", func := "tachograph/tachographtop.TopNames", spec := "topNames", unfollowed := true, recurses := true, plainKeys := false, apart := false }
def TopNamesSaid : Prop := topNamesRow.holds Try.pinned (OpenSpec.ofChange topNamesSpec)

/-- ITS FALSE NEIGHBOUR: 'it returns false'. Refute it at one input. -/
def topNamesWrong : ChangeSpec := { name := "topNames", fn := fun _ => fun
  | [] => { results := [.lit (.bool false)], args := [] }
  | _ => none }
def TopNamesWrongFalsely : Prop := topNamesRow.holds Try.pinned (OpenSpec.ofChange topNamesWrong)

/-- 'tachographlaw07.SegsAll': WHATEVER THE INPUT: true; the input reads as it did. -/
def segsAllSpec : ChangeSpec := { name := "segsAll", fn := fun _ => fun
  | [d] => { results := [.lit (.bool true)], args := [d] }
  | _ => none }
def segsAllRow : OpenClaim := { program := "ytepnillddlemaaa", sum := "43190234ca8f0c27542e86e58447d7e5d166b80449f6ccdda55e5f8fa19407eb", func := "tachograph/tachographlaw07.SegsAll", spec := "segsAll", unfollowed := true, recurses := true, plainKeys := false, apart := false }
def SegsAllSaid : Prop := segsAllRow.holds Try.pinned (OpenSpec.ofChange segsAllSpec)

/-- ITS FALSE NEIGHBOUR: 'it returns false'. Refute it at one input. -/
def segsAllWrong : ChangeSpec := { name := "segsAll", fn := fun _ => fun
  | [d] => { results := [.lit (.bool false)], args := [d] }
  | _ => none }
def SegsAllWrongFalsely : Prop := segsAllRow.holds Try.pinned (OpenSpec.ofChange segsAllWrong)

/-- 'tachographlaw07.SegsBehind': WHATEVER THE INPUT: true; the input reads as it did. -/
def segsBehindSpec : ChangeSpec := { name := "segsBehind", fn := fun _ => fun
  | [d] => { results := [.lit (.bool true)], args := [d] }
  | _ => none }
def segsBehindRow : OpenClaim := { program := "ytepnillddlemaaa", sum := "43190234ca8f0c27542e86e58447d7e5d166b80449f6ccdda55e5f8fa19407eb", func := "tachograph/tachographlaw07.SegsBehind", spec := "segsBehind", unfollowed := true, recurses := true, plainKeys := false, apart := false }
def SegsBehindSaid : Prop := segsBehindRow.holds Try.pinned (OpenSpec.ofChange segsBehindSpec)

/-- ITS FALSE NEIGHBOUR: 'it returns false'. Refute it at one input. -/
def segsBehindWrong : ChangeSpec := { name := "segsBehind", fn := fun _ => fun
  | [d] => { results := [.lit (.bool false)], args := [d] }
  | _ => none }
def SegsBehindWrongFalsely : Prop := segsBehindRow.holds Try.pinned (OpenSpec.ofChange segsBehindWrong)

/-- 'tachographlaw24.SizeGrows': WHATEVER THE INPUT: true; the input reads as it did. -/
def sizeGrowsSpec : ChangeSpec := { name := "sizeGrows", fn := fun _ => fun
  | [d1, d2, d3] => { results := [.lit (.bool true)], args := [d1, d2, d3] }
  | _ => none }
def sizeGrowsRow : OpenClaim := { program := "ytepnillddlemaaa", sum := "43190234ca8f0c27542e86e58447d7e5d166b80449f6ccdda55e5f8fa19407eb", func := "tachograph/tachographlaw24.SizeGrows", spec := "sizeGrows", unfollowed := true, recurses := true, plainKeys := false, apart := false }
def SizeGrowsSaid : Prop := sizeGrowsRow.holds Try.pinned (OpenSpec.ofChange sizeGrowsSpec)

/-- ITS FALSE NEIGHBOUR: 'it returns false'. Refute it at one input. -/
def sizeGrowsWrong : ChangeSpec := { name := "sizeGrows", fn := fun _ => fun
  | [d1, d2, d3] => { results := [.lit (.bool false)], args := [d1, d2, d3] }
  | _ => none }
def SizeGrowsWrongFalsely : Prop := sizeGrowsRow.holds Try.pinned (OpenSpec.ofChange sizeGrowsWrong)

/-- 'tachographlaw14.BlockPuts': WHATEVER THE INPUT: true; the input reads as it did. -/
def blockPutsSpec : ChangeSpec := { name := "blockPuts", fn := fun _ => fun
  | [d1, d2] => { results := [.lit (.bool true)], args := [d1, d2] }
  | _ => none }
def blockPutsRow : OpenClaim := { program := "ytepnillddlemaaa", sum := "43190234ca8f0c27542e86e58447d7e5d166b80449f6ccdda55e5f8fa19407eb", func := "tachograph/tachographlaw14.BlockPuts", spec := "blockPuts", unfollowed := true, recurses := true, plainKeys := false, apart := false }
def BlockPutsSaid : Prop := blockPutsRow.holds Try.pinned (OpenSpec.ofChange blockPutsSpec)

/-- ITS FALSE NEIGHBOUR: 'it returns false'. Refute it at one input. -/
def blockPutsWrong : ChangeSpec := { name := "blockPuts", fn := fun _ => fun
  | [d1, d2] => { results := [.lit (.bool false)], args := [d1, d2] }
  | _ => none }
def BlockPutsWrongFalsely : Prop := blockPutsRow.holds Try.pinned (OpenSpec.ofChange blockPutsWrong)

/-- 'tachographlaw07.SegsOf': WHATEVER THE INPUT: true; the input reads as it did. -/
def segsOfSpec : ChangeSpec := { name := "segsOf", fn := fun _ => fun
  | [d] => { results := [.lit (.bool true)], args := [d] }
  | _ => none }
def segsOfRow : OpenClaim := { program := "ytepnillddlemaaa", sum := "43190234ca8f0c27542e86e58447d7e5d166b80449f6ccdda55e5f8fa19407eb", func := "tachograph/tachographlaw07.SegsOf", spec := "segsOf", unfollowed := true, recurses := true, plainKeys := false, apart := false }
def SegsOfSaid : Prop := segsOfRow.holds Try.pinned (OpenSpec.ofChange segsOfSpec)

/-- ITS FALSE NEIGHBOUR: 'it returns false'. Refute it at one input. -/
def segsOfWrong : ChangeSpec := { name := "segsOf", fn := fun _ => fun
  | [d] => { results := [.lit (.bool false)], args := [d] }
  | _ => none }
def SegsOfWrongFalsely : Prop := segsOfRow.holds Try.pinned (OpenSpec.ofChange segsOfWrong)

/-- 'tachographlaw14.BlockLonger': WHATEVER THE INPUT: true; the input reads as it did. -/
def blockLongerSpec : ChangeSpec := { name := "blockLonger", fn := fun _ => fun
  | [d1, d2] => { results := [.lit (.bool true)], args := [d1, d2] }
  | _ => none }
def blockLongerRow : OpenClaim := { program := "ytepnillddlemaaa", sum := "43190234ca8f0c27542e86e58447d7e5d166b80449f6ccdda55e5f8fa19407eb", func := "tachograph/tachographlaw14.BlockLonger", spec := "blockLonger", unfollowed := true, recurses := true, plainKeys := false, apart := false }
def BlockLongerSaid : Prop := blockLongerRow.holds Try.pinned (OpenSpec.ofChange blockLongerSpec)

/-- ITS FALSE NEIGHBOUR: 'it returns false'. Refute it at one input. -/
def blockLongerWrong : ChangeSpec := { name := "blockLonger", fn := fun _ => fun
  | [d1, d2] => { results := [.lit (.bool false)], args := [d1, d2] }
  | _ => none }
def BlockLongerWrongFalsely : Prop := blockLongerRow.holds Try.pinned (OpenSpec.ofChange blockLongerWrong)

/-- 'tachographlaw08.FeedChunks': WHATEVER THE INPUT: true; the input reads as it did. -/
def feedChunksSpec : ChangeSpec := { name := "feedChunks", fn := fun _ => fun
  | [d1, d2] => { results := [.lit (.bool true)], args := [d1, d2] }
  | _ => none }
def feedChunksRow : OpenClaim := { program := "ytepnillddlemaaa", sum := "43190234ca8f0c27542e86e58447d7e5d166b80449f6ccdda55e5f8fa19407eb", func := "tachograph/tachographlaw08.FeedChunks", spec := "feedChunks", unfollowed := true, recurses := true, plainKeys := false, apart := false }
def FeedChunksSaid : Prop := feedChunksRow.holds Try.pinned (OpenSpec.ofChange feedChunksSpec)

/-- ITS FALSE NEIGHBOUR: 'it returns false'. Refute it at one input. -/
def feedChunksWrong : ChangeSpec := { name := "feedChunks", fn := fun _ => fun
  | [d1, d2] => { results := [.lit (.bool false)], args := [d1, d2] }
  | _ => none }
def FeedChunksWrongFalsely : Prop := feedChunksRow.holds Try.pinned (OpenSpec.ofChange feedChunksWrong)

/-- 'tachographlaw11.SigbinPuts': WHATEVER THE INPUT: true; the input reads as it did. -/
def sigbinPutsSpec : ChangeSpec := { name := "sigbinPuts", fn := fun _ => fun
  | [d] => { results := [.lit (.bool true)], args := [d] }
  | _ => none }
def sigbinPutsRow : OpenClaim := { program := "ytepnillddlemaaa", sum := "43190234ca8f0c27542e86e58447d7e5d166b80449f6ccdda55e5f8fa19407eb", func := "tachograph/tachographlaw11.SigbinPuts", spec := "sigbinPuts", unfollowed := true, recurses := true, plainKeys := false, apart := false }
def SigbinPutsSaid : Prop := sigbinPutsRow.holds Try.pinned (OpenSpec.ofChange sigbinPutsSpec)

/-- ITS FALSE NEIGHBOUR: 'it returns false'. Refute it at one input. -/
def sigbinPutsWrong : ChangeSpec := { name := "sigbinPuts", fn := fun _ => fun
  | [d] => { results := [.lit (.bool false)], args := [d] }
  | _ => none }
def SigbinPutsWrongFalsely : Prop := sigbinPutsRow.holds Try.pinned (OpenSpec.ofChange sigbinPutsWrong)

/-- 'tachographlaw25.WoundStill': WHATEVER THE INPUT: true; the input reads as it did. -/
def woundStillSpec : ChangeSpec := { name := "woundStill", fn := fun _ => fun
  | [d1, d2] => { results := [.lit (.bool true)], args := [d1, d2] }
  | _ => none }
def woundStillRow : OpenClaim := { program := "ytepnillddlemaaa", sum := "43190234ca8f0c27542e86e58447d7e5d166b80449f6ccdda55e5f8fa19407eb", func := "tachograph/tachographlaw25.WoundStill", spec := "woundStill", unfollowed := true, recurses := true, plainKeys := false, apart := false }
def WoundStillSaid : Prop := woundStillRow.holds Try.pinned (OpenSpec.ofChange woundStillSpec)

/-- ITS FALSE NEIGHBOUR: 'it returns false'. Refute it at one input. -/
def woundStillWrong : ChangeSpec := { name := "woundStill", fn := fun _ => fun
  | [d1, d2] => { results := [.lit (.bool false)], args := [d1, d2] }
  | _ => none }
def WoundStillWrongFalsely : Prop := woundStillRow.holds Try.pinned (OpenSpec.ofChange woundStillWrong)

/-- 'tachographlaw17.WriteTakes': WHATEVER THE INPUT: true; the input reads as it did. -/
def writeTakesSpec : ChangeSpec := { name := "writeTakes", fn := fun _ => fun
  | [d1, d2, d3] => { results := [.lit (.bool true)], args := [d1, d2, d3] }
  | _ => none }
def writeTakesRow : OpenClaim := { program := "ytepnillddlemaaa", sum := "43190234ca8f0c27542e86e58447d7e5d166b80449f6ccdda55e5f8fa19407eb", func := "tachograph/tachographlaw17.WriteTakes", spec := "writeTakes", unfollowed := true, recurses := true, plainKeys := false, apart := false }
def WriteTakesSaid : Prop := writeTakesRow.holds Try.pinned (OpenSpec.ofChange writeTakesSpec)

/-- ITS FALSE NEIGHBOUR: 'it returns false'. Refute it at one input. -/
def writeTakesWrong : ChangeSpec := { name := "writeTakes", fn := fun _ => fun
  | [d1, d2, d3] => { results := [.lit (.bool false)], args := [d1, d2, d3] }
  | _ => none }
def WriteTakesWrongFalsely : Prop := writeTakesRow.holds Try.pinned (OpenSpec.ofChange writeTakesWrong)

/- THE SECOND FORM. 'bulk': how many values and letters a reading holds, each counted each time it is reached (what is shared counts as often as it is met; a slice's spare places count too). A statement '..UptoSaid' is the law's where the arguments, and the package variables that the reading takes, are together of bulk at most 1048576: NARROWER than '..Said'. Prove '..Said' where nothing that the law and all that it calls make is longer than what came in: it says more and counts as full. Else prove '..UptoSaid'. A law counts once. -/
mutual
def uptoBulk {H : Type} : DataW H → Nat
  | .lit (.string bytes) => bytes.length + 1
  | .lit _ => 1
  | .nil => 1
  | .ptr d => uptoBulk d + 1
  | .slice elems spare => uptoBulkAll elems + uptoBulkAll spare + 1
  | .agg parts => uptoBulkAll parts + 1
  | .iface _ d => uptoBulk d + 1
  | .map entries => uptoBulkEntries entries + 1
  | .held _ => 1
def uptoBulkAll {H : Type} : List (DataW H) → Nat
  | [] => 0
  | d :: r => uptoBulk d + uptoBulkAll r
def uptoBulkEntries {H : Type} : List (Lit × DataW H) → Nat
  | [] => 0
  | x :: r => uptoBulkEntry x + uptoBulkEntries r
def uptoBulkEntry {H : Type} : Lit × DataW H → Nat
  | (.string bytes, d) => bytes.length + uptoBulk d + 1
  | (_, d) => uptoBulk d + 1
 end
def uptoSmall : (H : Type) → List (DataW H) → Bool := fun _ ds => decide (uptoBulkAll ds ≤ 1048576)
def OpenSpec.upto (s : _root_.Go.ChangeSpec) : _root_.Go.OpenSpec := { _root_.Go.OpenSpec.ofChange s with cond := some uptoSmall }

/-- 'tachographtop.TopNames', WHERE WHAT IT READS IS OF BULK AT MOST 1048576: true; the input reads as it did. -/
def topNamesUptoRow : OpenClaim := { program := "ytepnillddlemaaa", sum := "43190234ca8f0c27542e86e58447d7e5d166b80449f6ccdda55e5f8fa19407eb", func := "tachograph/tachographtop.TopNames", spec := "topNames", unfollowed := true, recurses := true, plainKeys := false, apart := false, narrowed := true }
def TopNamesUptoSaid : Prop := topNamesUptoRow.holds Try.pinned (OpenSpec.upto topNamesSpec)

/-- 'tachographlaw07.SegsAll', WHERE WHAT IT READS IS OF BULK AT MOST 1048576: true; the input reads as it did. -/
def segsAllUptoRow : OpenClaim := { program := "ytepnillddlemaaa", sum := "43190234ca8f0c27542e86e58447d7e5d166b80449f6ccdda55e5f8fa19407eb", func := "tachograph/tachographlaw07.SegsAll", spec := "segsAll", unfollowed := true, recurses := true, plainKeys := false, apart := false, narrowed := true }
def SegsAllUptoSaid : Prop := segsAllUptoRow.holds Try.pinned (OpenSpec.upto segsAllSpec)

/-- 'tachographlaw07.SegsBehind', WHERE WHAT IT READS IS OF BULK AT MOST 1048576: true; the input reads as it did. -/
def segsBehindUptoRow : OpenClaim := { program := "ytepnillddlemaaa", sum := "43190234ca8f0c27542e86e58447d7e5d166b80449f6ccdda55e5f8fa19407eb", func := "tachograph/tachographlaw07.SegsBehind", spec := "segsBehind", unfollowed := true, recurses := true, plainKeys := false, apart := false, narrowed := true }
def SegsBehindUptoSaid : Prop := segsBehindUptoRow.holds Try.pinned (OpenSpec.upto segsBehindSpec)

/-- 'tachographlaw24.SizeGrows', WHERE WHAT IT READS IS OF BULK AT MOST 1048576: true; the input reads as it did. -/
def sizeGrowsUptoRow : OpenClaim := { program := "ytepnillddlemaaa", sum := "43190234ca8f0c27542e86e58447d7e5d166b80449f6ccdda55e5f8fa19407eb", func := "tachograph/tachographlaw24.SizeGrows", spec := "sizeGrows", unfollowed := true, recurses := true, plainKeys := false, apart := false, narrowed := true }
def SizeGrowsUptoSaid : Prop := sizeGrowsUptoRow.holds Try.pinned (OpenSpec.upto sizeGrowsSpec)

/-- 'tachographlaw14.BlockPuts', WHERE WHAT IT READS IS OF BULK AT MOST 1048576: true; the input reads as it did. -/
def blockPutsUptoRow : OpenClaim := { program := "ytepnillddlemaaa", sum := "43190234ca8f0c27542e86e58447d7e5d166b80449f6ccdda55e5f8fa19407eb", func := "tachograph/tachographlaw14.BlockPuts", spec := "blockPuts", unfollowed := true, recurses := true, plainKeys := false, apart := false, narrowed := true }
def BlockPutsUptoSaid : Prop := blockPutsUptoRow.holds Try.pinned (OpenSpec.upto blockPutsSpec)

/-- 'tachographlaw07.SegsOf', WHERE WHAT IT READS IS OF BULK AT MOST 1048576: true; the input reads as it did. -/
def segsOfUptoRow : OpenClaim := { program := "ytepnillddlemaaa", sum := "43190234ca8f0c27542e86e58447d7e5d166b80449f6ccdda55e5f8fa19407eb", func := "tachograph/tachographlaw07.SegsOf", spec := "segsOf", unfollowed := true, recurses := true, plainKeys := false, apart := false, narrowed := true }
def SegsOfUptoSaid : Prop := segsOfUptoRow.holds Try.pinned (OpenSpec.upto segsOfSpec)

/-- 'tachographlaw14.BlockLonger', WHERE WHAT IT READS IS OF BULK AT MOST 1048576: true; the input reads as it did. -/
def blockLongerUptoRow : OpenClaim := { program := "ytepnillddlemaaa", sum := "43190234ca8f0c27542e86e58447d7e5d166b80449f6ccdda55e5f8fa19407eb", func := "tachograph/tachographlaw14.BlockLonger", spec := "blockLonger", unfollowed := true, recurses := true, plainKeys := false, apart := false, narrowed := true }
def BlockLongerUptoSaid : Prop := blockLongerUptoRow.holds Try.pinned (OpenSpec.upto blockLongerSpec)

/-- 'tachographlaw08.FeedChunks', WHERE WHAT IT READS IS OF BULK AT MOST 1048576: true; the input reads as it did. -/
def feedChunksUptoRow : OpenClaim := { program := "ytepnillddlemaaa", sum := "43190234ca8f0c27542e86e58447d7e5d166b80449f6ccdda55e5f8fa19407eb", func := "tachograph/tachographlaw08.FeedChunks", spec := "feedChunks", unfollowed := true, recurses := true, plainKeys := false, apart := false, narrowed := true }
def FeedChunksUptoSaid : Prop := feedChunksUptoRow.holds Try.pinned (OpenSpec.upto feedChunksSpec)

/-- 'tachographlaw11.SigbinPuts', WHERE WHAT IT READS IS OF BULK AT MOST 1048576: true; the input reads as it did. -/
def sigbinPutsUptoRow : OpenClaim := { program := "ytepnillddlemaaa", sum := "43190234ca8f0c27542e86e58447d7e5d166b80449f6ccdda55e5f8fa19407eb", func := "tachograph/tachographlaw11.SigbinPuts", spec := "sigbinPuts", unfollowed := true, recurses := true, plainKeys := false, apart := false, narrowed := true }
def SigbinPutsUptoSaid : Prop := sigbinPutsUptoRow.holds Try.pinned (OpenSpec.upto sigbinPutsSpec)

/-- 'tachographlaw25.WoundStill', WHERE WHAT IT READS IS OF BULK AT MOST 1048576: true; the input reads as it did. -/
def woundStillUptoRow : OpenClaim := { program := "ytepnillddlemaaa", sum := "43190234ca8f0c27542e86e58447d7e5d166b80449f6ccdda55e5f8fa19407eb", func := "tachograph/tachographlaw25.WoundStill", spec := "woundStill", unfollowed := true, recurses := true, plainKeys := false, apart := false, narrowed := true }
def WoundStillUptoSaid : Prop := woundStillUptoRow.holds Try.pinned (OpenSpec.upto woundStillSpec)

/-- 'tachographlaw17.WriteTakes', WHERE WHAT IT READS IS OF BULK AT MOST 1048576: true; the input reads as it did. -/
def writeTakesUptoRow : OpenClaim := { program := "ytepnillddlemaaa", sum := "43190234ca8f0c27542e86e58447d7e5d166b80449f6ccdda55e5f8fa19407eb", func := "tachograph/tachographlaw17.WriteTakes", spec := "writeTakes", unfollowed := true, recurses := true, plainKeys := false, apart := false, narrowed := true }
def WriteTakesUptoSaid : Prop := writeTakesUptoRow.holds Try.pinned (OpenSpec.upto writeTakesSpec)

end Rows
end Go.Proofs.Ytepnillddlemaaa
