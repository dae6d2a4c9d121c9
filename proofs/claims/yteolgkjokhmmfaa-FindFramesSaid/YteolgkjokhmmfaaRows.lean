/-
  No cell of these rows narrows 'for every input' (looked for: loops, veiled, ifaces, maps, wideKeys, modest, calm, conditions, laid).
  DERIVED. THE GIVEN ROWS OF THIS SEAT. 22 by the template 'for every input the law returns true; each argument reads behind the call as it read before'; 0 by the template 'total and deterministic' (their statements: YteolgkjokhmmfaaTotals.lean).
  GIVEN WITH THE SEED: the statements are not yours to turn. If you find one false, say at which input.
  Laid BY PROGRAM, IN A SANDBOX (cutbox-rows.mjs): the forced cells as the released guide's own fill.sh prints them over the translation e4450a44a64fc953… (all of the seat's roots in one cut). By AI agents, Wed Nov 11 2026. No macro, syntax, notation, axiom, sorry.
-/
import Derived.Test.YteolgkjokhmmfaaChecked
import GoSem.Claim
import GoSem.ClaimJoined
import GoSem.ClaimMapViews
import Derived.JoinedTies
import Derived.KernelRfl
namespace Go.Proofs.Yteolgkjokhmmfaa
/- THE CELL 'sum', in the pinned program and in every row, IS THE sha256 OF THE DUMP (.gsa) THAT YteolgkjokhmmfaaProg.lean LOADS. Nothing in Lean hashes anything: it is a label: what it is worth is what the hold of that sum in a sandbox is worth. -/
noncomputable def Try.pinned : Pinned := { name := "yteolgkjokhmmfaa", sum := "e4450a44a64fc953813a29e4816c3bf912d98f94ce5772ac9783127d63dfa6ee", checked := Try.checked }
namespace Rows
def none {H : Type} : Left H := { results := [], args := [] }

/-- 'tachographlaw04.CrcRows': WHATEVER THE INPUT: true; the input reads as it did. -/
def crcRowsSpec : ChangeSpec := { name := "crcRows", fn := fun _ => fun
  | [d1, d2] => { results := [.lit (.bool true)], args := [d1, d2] }
  | _ => none }
def crcRowsRow : OpenClaim := { program := "yteolgkjokhmmfaa", sum := "e4450a44a64fc953813a29e4816c3bf912d98f94ce5772ac9783127d63dfa6ee", func := "tachograph/tachographlaw04.CrcRows", spec := "crcRows", plainKeys := false, apart := false }
def CrcRowsSaid : Prop := crcRowsRow.holds Try.pinned (OpenSpec.ofChange crcRowsSpec)

/-- ITS FALSE NEIGHBOUR: 'it returns false'. Refute it at one input. -/
def crcRowsWrong : ChangeSpec := { name := "crcRows", fn := fun _ => fun
  | [d1, d2] => { results := [.lit (.bool false)], args := [d1, d2] }
  | _ => none }
def CrcRowsWrongFalsely : Prop := crcRowsRow.holds Try.pinned (OpenSpec.ofChange crcRowsWrong)

/-- 'tachographlaw04.CrcTold': WHATEVER THE INPUT: true; the input reads as it did. -/
def crcToldSpec : ChangeSpec := { name := "crcTold", fn := fun _ => fun
  | [d1, d2, d3] => { results := [.lit (.bool true)], args := [d1, d2, d3] }
  | _ => none }
def crcToldRow : OpenClaim := { program := "yteolgkjokhmmfaa", sum := "e4450a44a64fc953813a29e4816c3bf912d98f94ce5772ac9783127d63dfa6ee", func := "tachograph/tachographlaw04.CrcTold", spec := "crcTold", plainKeys := false, apart := false }
def CrcToldSaid : Prop := crcToldRow.holds Try.pinned (OpenSpec.ofChange crcToldSpec)

/-- ITS FALSE NEIGHBOUR: 'it returns false'. Refute it at one input. -/
def crcToldWrong : ChangeSpec := { name := "crcTold", fn := fun _ => fun
  | [d1, d2, d3] => { results := [.lit (.bool false)], args := [d1, d2, d3] }
  | _ => none }
def CrcToldWrongFalsely : Prop := crcToldRow.holds Try.pinned (OpenSpec.ofChange crcToldWrong)

/-- 'tachographlaw04.CrcSums': WHATEVER THE INPUT: true; the input reads as it did. -/
def crcSumsSpec : ChangeSpec := { name := "crcSums", fn := fun _ => fun
  | [d1, d2, d3] => { results := [.lit (.bool true)], args := [d1, d2, d3] }
  | _ => none }
def crcSumsRow : OpenClaim := { program := "yteolgkjokhmmfaa", sum := "e4450a44a64fc953813a29e4816c3bf912d98f94ce5772ac9783127d63dfa6ee", func := "tachograph/tachographlaw04.CrcSums", spec := "crcSums", plainKeys := false, apart := false }
def CrcSumsSaid : Prop := crcSumsRow.holds Try.pinned (OpenSpec.ofChange crcSumsSpec)

/-- ITS FALSE NEIGHBOUR: 'it returns false'. Refute it at one input. -/
def crcSumsWrong : ChangeSpec := { name := "crcSums", fn := fun _ => fun
  | [d1, d2, d3] => { results := [.lit (.bool false)], args := [d1, d2, d3] }
  | _ => none }
def CrcSumsWrongFalsely : Prop := crcSumsRow.holds Try.pinned (OpenSpec.ofChange crcSumsWrong)

/-- 'tachographlaw05.FramePuts': WHATEVER THE INPUT: true; the input reads as it did. -/
def framePutsSpec : ChangeSpec := { name := "framePuts", fn := fun _ => fun
  | [d1, d2] => { results := [.lit (.bool true)], args := [d1, d2] }
  | _ => none }
def framePutsRow : OpenClaim := { program := "yteolgkjokhmmfaa", sum := "e4450a44a64fc953813a29e4816c3bf912d98f94ce5772ac9783127d63dfa6ee", func := "tachograph/tachographlaw05.FramePuts", spec := "framePuts", unfollowed := true, recurses := true, plainKeys := false, apart := false }
def FramePutsSaid : Prop := framePutsRow.holds Try.pinned (OpenSpec.ofChange framePutsSpec)

/-- ITS FALSE NEIGHBOUR: 'it returns false'. Refute it at one input. -/
def framePutsWrong : ChangeSpec := { name := "framePuts", fn := fun _ => fun
  | [d1, d2] => { results := [.lit (.bool false)], args := [d1, d2] }
  | _ => none }
def FramePutsWrongFalsely : Prop := framePutsRow.holds Try.pinned (OpenSpec.ofChange framePutsWrong)

/-- 'tachographlaw05.FrameGets': WHATEVER THE INPUT: true; the input reads as it did. -/
def frameGetsSpec : ChangeSpec := { name := "frameGets", fn := fun _ => fun
  | [d] => { results := [.lit (.bool true)], args := [d] }
  | _ => none }
def frameGetsRow : OpenClaim := { program := "yteolgkjokhmmfaa", sum := "e4450a44a64fc953813a29e4816c3bf912d98f94ce5772ac9783127d63dfa6ee", func := "tachograph/tachographlaw05.FrameGets", spec := "frameGets", unfollowed := true, recurses := true, plainKeys := false, apart := false }
def FrameGetsSaid : Prop := frameGetsRow.holds Try.pinned (OpenSpec.ofChange frameGetsSpec)

/-- ITS FALSE NEIGHBOUR: 'it returns false'. Refute it at one input. -/
def frameGetsWrong : ChangeSpec := { name := "frameGets", fn := fun _ => fun
  | [d] => { results := [.lit (.bool false)], args := [d] }
  | _ => none }
def FrameGetsWrongFalsely : Prop := frameGetsRow.holds Try.pinned (OpenSpec.ofChange frameGetsWrong)

/-- 'tachographlaw05.FrameShort': WHATEVER THE INPUT: true; the input reads as it did. -/
def frameShortSpec : ChangeSpec := { name := "frameShort", fn := fun _ => fun
  | [d1, d2, d3] => { results := [.lit (.bool true)], args := [d1, d2, d3] }
  | _ => none }
def frameShortRow : OpenClaim := { program := "yteolgkjokhmmfaa", sum := "e4450a44a64fc953813a29e4816c3bf912d98f94ce5772ac9783127d63dfa6ee", func := "tachograph/tachographlaw05.FrameShort", spec := "frameShort", unfollowed := true, recurses := true, plainKeys := false, apart := false }
def FrameShortSaid : Prop := frameShortRow.holds Try.pinned (OpenSpec.ofChange frameShortSpec)

/-- ITS FALSE NEIGHBOUR: 'it returns false'. Refute it at one input. -/
def frameShortWrong : ChangeSpec := { name := "frameShort", fn := fun _ => fun
  | [d1, d2, d3] => { results := [.lit (.bool false)], args := [d1, d2, d3] }
  | _ => none }
def FrameShortWrongFalsely : Prop := frameShortRow.holds Try.pinned (OpenSpec.ofChange frameShortWrong)

/-- 'tachographlaw05.FrameTold': WHATEVER THE INPUT: true; the input reads as it did. -/
def frameToldSpec : ChangeSpec := { name := "frameTold", fn := fun _ => fun
  | [d1, d2, d3] => { results := [.lit (.bool true)], args := [d1, d2, d3] }
  | _ => none }
def frameToldRow : OpenClaim := { program := "yteolgkjokhmmfaa", sum := "e4450a44a64fc953813a29e4816c3bf912d98f94ce5772ac9783127d63dfa6ee", func := "tachograph/tachographlaw05.FrameTold", spec := "frameTold", unfollowed := true, recurses := true, plainKeys := false, apart := false }
def FrameToldSaid : Prop := frameToldRow.holds Try.pinned (OpenSpec.ofChange frameToldSpec)

/-- ITS FALSE NEIGHBOUR: 'it returns false'. Refute it at one input. -/
def frameToldWrong : ChangeSpec := { name := "frameTold", fn := fun _ => fun
  | [d1, d2, d3] => { results := [.lit (.bool false)], args := [d1, d2, d3] }
  | _ => none }
def FrameToldWrongFalsely : Prop := frameToldRow.holds Try.pinned (OpenSpec.ofChange frameToldWrong)

/-- 'tachographlaw06.FindYet': WHATEVER THE INPUT: true; the input reads as it did. -/
def findYetSpec : ChangeSpec := { name := "findYet", fn := fun _ => fun
  | [d1, d2] => { results := [.lit (.bool true)], args := [d1, d2] }
  | _ => none }
def findYetRow : OpenClaim := { program := "yteolgkjokhmmfaa", sum := "e4450a44a64fc953813a29e4816c3bf912d98f94ce5772ac9783127d63dfa6ee", func := "tachograph/tachographlaw06.FindYet", spec := "findYet", unfollowed := true, recurses := true, plainKeys := false, apart := false }
def FindYetSaid : Prop := findYetRow.holds Try.pinned (OpenSpec.ofChange findYetSpec)

/-- ITS FALSE NEIGHBOUR: 'it returns false'. Refute it at one input. -/
def findYetWrong : ChangeSpec := { name := "findYet", fn := fun _ => fun
  | [d1, d2] => { results := [.lit (.bool false)], args := [d1, d2] }
  | _ => none }
def FindYetWrongFalsely : Prop := findYetRow.holds Try.pinned (OpenSpec.ofChange findYetWrong)

/-- 'tachographlaw06.FindPlaces': WHATEVER THE INPUT: true; the input reads as it did. -/
def findPlacesSpec : ChangeSpec := { name := "findPlaces", fn := fun _ => fun
  | [d1, d2, d3] => { results := [.lit (.bool true)], args := [d1, d2, d3] }
  | _ => none }
def findPlacesRow : OpenClaim := { program := "yteolgkjokhmmfaa", sum := "e4450a44a64fc953813a29e4816c3bf912d98f94ce5772ac9783127d63dfa6ee", func := "tachograph/tachographlaw06.FindPlaces", spec := "findPlaces", unfollowed := true, recurses := true, plainKeys := false, apart := false }
def FindPlacesSaid : Prop := findPlacesRow.holds Try.pinned (OpenSpec.ofChange findPlacesSpec)

/-- ITS FALSE NEIGHBOUR: 'it returns false'. Refute it at one input. -/
def findPlacesWrong : ChangeSpec := { name := "findPlaces", fn := fun _ => fun
  | [d1, d2, d3] => { results := [.lit (.bool false)], args := [d1, d2, d3] }
  | _ => none }
def FindPlacesWrongFalsely : Prop := findPlacesRow.holds Try.pinned (OpenSpec.ofChange findPlacesWrong)

/-- 'tachographtop.TopNames': WHATEVER THE INPUT: true; the input reads as it did. -/
def topNamesSpec : ChangeSpec := { name := "topNames", fn := fun _ => fun
  | [] => { results := [.lit (.bool true)], args := [] }
  | _ => none }
def topNamesRow : OpenClaim := { program := "yteolgkjokhmmfaa", sum := "e4450a44a64fc953813a29e4816c3bf912d98f94ce5772ac9783127d63dfa6ee", func := "tachograph/tachographtop.TopNames", spec := "topNames", unfollowed := true, recurses := true, plainKeys := false, apart := false }
def TopNamesSaid : Prop := topNamesRow.holds Try.pinned (OpenSpec.ofChange topNamesSpec)

/-- ITS FALSE NEIGHBOUR: 'it returns false'. Refute it at one input. -/
def topNamesWrong : ChangeSpec := { name := "topNames", fn := fun _ => fun
  | [] => { results := [.lit (.bool false)], args := [] }
  | _ => none }
def TopNamesWrongFalsely : Prop := topNamesRow.holds Try.pinned (OpenSpec.ofChange topNamesWrong)

/-- 'tachographlaw06.FindFrames': WHATEVER THE INPUT: true; the input reads as it did. -/
def findFramesSpec : ChangeSpec := { name := "findFrames", fn := fun _ => fun
  | [d1, d2] => { results := [.lit (.bool true)], args := [d1, d2] }
  | _ => none }
def findFramesRow : OpenClaim := { program := "yteolgkjokhmmfaa", sum := "e4450a44a64fc953813a29e4816c3bf912d98f94ce5772ac9783127d63dfa6ee", func := "tachograph/tachographlaw06.FindFrames", spec := "findFrames", unfollowed := true, recurses := true, plainKeys := false, apart := false }
def FindFramesSaid : Prop := findFramesRow.holds Try.pinned (OpenSpec.ofChange findFramesSpec)

/-- ITS FALSE NEIGHBOUR: 'it returns false'. Refute it at one input. -/
def findFramesWrong : ChangeSpec := { name := "findFrames", fn := fun _ => fun
  | [d1, d2] => { results := [.lit (.bool false)], args := [d1, d2] }
  | _ => none }
def FindFramesWrongFalsely : Prop := findFramesRow.holds Try.pinned (OpenSpec.ofChange findFramesWrong)

/-- 'tachographlaw07.SegsAll': WHATEVER THE INPUT: true; the input reads as it did. -/
def segsAllSpec : ChangeSpec := { name := "segsAll", fn := fun _ => fun
  | [d] => { results := [.lit (.bool true)], args := [d] }
  | _ => none }
def segsAllRow : OpenClaim := { program := "yteolgkjokhmmfaa", sum := "e4450a44a64fc953813a29e4816c3bf912d98f94ce5772ac9783127d63dfa6ee", func := "tachograph/tachographlaw07.SegsAll", spec := "segsAll", unfollowed := true, recurses := true, plainKeys := false, apart := false }
def SegsAllSaid : Prop := segsAllRow.holds Try.pinned (OpenSpec.ofChange segsAllSpec)

/-- ITS FALSE NEIGHBOUR: 'it returns false'. Refute it at one input. -/
def segsAllWrong : ChangeSpec := { name := "segsAll", fn := fun _ => fun
  | [d] => { results := [.lit (.bool false)], args := [d] }
  | _ => none }
def SegsAllWrongFalsely : Prop := segsAllRow.holds Try.pinned (OpenSpec.ofChange segsAllWrong)

/-- 'tachographlaw07.SegsBehind': WHATEVER THE INPUT: true; the input reads as it did. -/
def segsBehindSpec : ChangeSpec := { name := "segsBehind", fn := fun _ => fun
  | [d] => { results := [.lit (.bool true)], args := [d] }
  | _ => none }
def segsBehindRow : OpenClaim := { program := "yteolgkjokhmmfaa", sum := "e4450a44a64fc953813a29e4816c3bf912d98f94ce5772ac9783127d63dfa6ee", func := "tachograph/tachographlaw07.SegsBehind", spec := "segsBehind", unfollowed := true, recurses := true, plainKeys := false, apart := false }
def SegsBehindSaid : Prop := segsBehindRow.holds Try.pinned (OpenSpec.ofChange segsBehindSpec)

/-- ITS FALSE NEIGHBOUR: 'it returns false'. Refute it at one input. -/
def segsBehindWrong : ChangeSpec := { name := "segsBehind", fn := fun _ => fun
  | [d] => { results := [.lit (.bool false)], args := [d] }
  | _ => none }
def SegsBehindWrongFalsely : Prop := segsBehindRow.holds Try.pinned (OpenSpec.ofChange segsBehindWrong)

/-- 'tachographlaw24.SizeGrows': WHATEVER THE INPUT: true; the input reads as it did. -/
def sizeGrowsSpec : ChangeSpec := { name := "sizeGrows", fn := fun _ => fun
  | [d1, d2, d3] => { results := [.lit (.bool true)], args := [d1, d2, d3] }
  | _ => none }
def sizeGrowsRow : OpenClaim := { program := "yteolgkjokhmmfaa", sum := "e4450a44a64fc953813a29e4816c3bf912d98f94ce5772ac9783127d63dfa6ee", func := "tachograph/tachographlaw24.SizeGrows", spec := "sizeGrows", unfollowed := true, recurses := true, plainKeys := false, apart := false }
def SizeGrowsSaid : Prop := sizeGrowsRow.holds Try.pinned (OpenSpec.ofChange sizeGrowsSpec)

/-- ITS FALSE NEIGHBOUR: 'it returns false'. Refute it at one input. -/
def sizeGrowsWrong : ChangeSpec := { name := "sizeGrows", fn := fun _ => fun
  | [d1, d2, d3] => { results := [.lit (.bool false)], args := [d1, d2, d3] }
  | _ => none }
def SizeGrowsWrongFalsely : Prop := sizeGrowsRow.holds Try.pinned (OpenSpec.ofChange sizeGrowsWrong)

/-- 'tachographlaw14.BlockPuts': WHATEVER THE INPUT: true; the input reads as it did. -/
def blockPutsSpec : ChangeSpec := { name := "blockPuts", fn := fun _ => fun
  | [d1, d2] => { results := [.lit (.bool true)], args := [d1, d2] }
  | _ => none }
def blockPutsRow : OpenClaim := { program := "yteolgkjokhmmfaa", sum := "e4450a44a64fc953813a29e4816c3bf912d98f94ce5772ac9783127d63dfa6ee", func := "tachograph/tachographlaw14.BlockPuts", spec := "blockPuts", unfollowed := true, recurses := true, plainKeys := false, apart := false }
def BlockPutsSaid : Prop := blockPutsRow.holds Try.pinned (OpenSpec.ofChange blockPutsSpec)

/-- ITS FALSE NEIGHBOUR: 'it returns false'. Refute it at one input. -/
def blockPutsWrong : ChangeSpec := { name := "blockPuts", fn := fun _ => fun
  | [d1, d2] => { results := [.lit (.bool false)], args := [d1, d2] }
  | _ => none }
def BlockPutsWrongFalsely : Prop := blockPutsRow.holds Try.pinned (OpenSpec.ofChange blockPutsWrong)

/-- 'tachographlaw07.SegsOf': WHATEVER THE INPUT: true; the input reads as it did. -/
def segsOfSpec : ChangeSpec := { name := "segsOf", fn := fun _ => fun
  | [d] => { results := [.lit (.bool true)], args := [d] }
  | _ => none }
def segsOfRow : OpenClaim := { program := "yteolgkjokhmmfaa", sum := "e4450a44a64fc953813a29e4816c3bf912d98f94ce5772ac9783127d63dfa6ee", func := "tachograph/tachographlaw07.SegsOf", spec := "segsOf", unfollowed := true, recurses := true, plainKeys := false, apart := false }
def SegsOfSaid : Prop := segsOfRow.holds Try.pinned (OpenSpec.ofChange segsOfSpec)

/-- ITS FALSE NEIGHBOUR: 'it returns false'. Refute it at one input. -/
def segsOfWrong : ChangeSpec := { name := "segsOf", fn := fun _ => fun
  | [d] => { results := [.lit (.bool false)], args := [d] }
  | _ => none }
def SegsOfWrongFalsely : Prop := segsOfRow.holds Try.pinned (OpenSpec.ofChange segsOfWrong)

/-- 'tachographlaw14.BlockLonger': WHATEVER THE INPUT: true; the input reads as it did. -/
def blockLongerSpec : ChangeSpec := { name := "blockLonger", fn := fun _ => fun
  | [d1, d2] => { results := [.lit (.bool true)], args := [d1, d2] }
  | _ => none }
def blockLongerRow : OpenClaim := { program := "yteolgkjokhmmfaa", sum := "e4450a44a64fc953813a29e4816c3bf912d98f94ce5772ac9783127d63dfa6ee", func := "tachograph/tachographlaw14.BlockLonger", spec := "blockLonger", unfollowed := true, recurses := true, plainKeys := false, apart := false }
def BlockLongerSaid : Prop := blockLongerRow.holds Try.pinned (OpenSpec.ofChange blockLongerSpec)

/-- ITS FALSE NEIGHBOUR: 'it returns false'. Refute it at one input. -/
def blockLongerWrong : ChangeSpec := { name := "blockLonger", fn := fun _ => fun
  | [d1, d2] => { results := [.lit (.bool false)], args := [d1, d2] }
  | _ => none }
def BlockLongerWrongFalsely : Prop := blockLongerRow.holds Try.pinned (OpenSpec.ofChange blockLongerWrong)

/-- 'tachographlaw08.FeedChunks': WHATEVER THE INPUT: true; the input reads as it did. -/
def feedChunksSpec : ChangeSpec := { name := "feedChunks", fn := fun _ => fun
  | [d1, d2] => { results := [.lit (.bool true)], args := [d1, d2] }
  | _ => none }
def feedChunksRow : OpenClaim := { program := "yteolgkjokhmmfaa", sum := "e4450a44a64fc953813a29e4816c3bf912d98f94ce5772ac9783127d63dfa6ee", func := "tachograph/tachographlaw08.FeedChunks", spec := "feedChunks", unfollowed := true, recurses := true, plainKeys := false, apart := false }
def FeedChunksSaid : Prop := feedChunksRow.holds Try.pinned (OpenSpec.ofChange feedChunksSpec)

/-- ITS FALSE NEIGHBOUR: 'it returns false'. Refute it at one input. -/
def feedChunksWrong : ChangeSpec := { name := "feedChunks", fn := fun _ => fun
  | [d1, d2] => { results := [.lit (.bool false)], args := [d1, d2] }
  | _ => none }
def FeedChunksWrongFalsely : Prop := feedChunksRow.holds Try.pinned (OpenSpec.ofChange feedChunksWrong)

/-- 'tachographlaw11.SigbinPuts': WHATEVER THE INPUT: true; the input reads as it did. -/
def sigbinPutsSpec : ChangeSpec := { name := "sigbinPuts", fn := fun _ => fun
  | [d] => { results := [.lit (.bool true)], args := [d] }
  | _ => none }
def sigbinPutsRow : OpenClaim := { program := "yteolgkjokhmmfaa", sum := "e4450a44a64fc953813a29e4816c3bf912d98f94ce5772ac9783127d63dfa6ee", func := "tachograph/tachographlaw11.SigbinPuts", spec := "sigbinPuts", unfollowed := true, recurses := true, plainKeys := false, apart := false }
def SigbinPutsSaid : Prop := sigbinPutsRow.holds Try.pinned (OpenSpec.ofChange sigbinPutsSpec)

/-- ITS FALSE NEIGHBOUR: 'it returns false'. Refute it at one input. -/
def sigbinPutsWrong : ChangeSpec := { name := "sigbinPuts", fn := fun _ => fun
  | [d] => { results := [.lit (.bool false)], args := [d] }
  | _ => none }
def SigbinPutsWrongFalsely : Prop := sigbinPutsRow.holds Try.pinned (OpenSpec.ofChange sigbinPutsWrong)

/-- 'tachographlaw25.WoundStill': WHATEVER THE INPUT: true; the input reads as it did. -/
def woundStillSpec : ChangeSpec := { name := "woundStill", fn := fun _ => fun
  | [d1, d2] => { results := [.lit (.bool true)], args := [d1, d2] }
  | _ => none }
def woundStillRow : OpenClaim := { program := "yteolgkjokhmmfaa", sum := "e4450a44a64fc953813a29e4816c3bf912d98f94ce5772ac9783127d63dfa6ee", func := "tachograph/tachographlaw25.WoundStill", spec := "woundStill", unfollowed := true, recurses := true, plainKeys := false, apart := false }
def WoundStillSaid : Prop := woundStillRow.holds Try.pinned (OpenSpec.ofChange woundStillSpec)

/-- ITS FALSE NEIGHBOUR: 'it returns false'. Refute it at one input. -/
def woundStillWrong : ChangeSpec := { name := "woundStill", fn := fun _ => fun
  | [d1, d2] => { results := [.lit (.bool false)], args := [d1, d2] }
  | _ => none }
def WoundStillWrongFalsely : Prop := woundStillRow.holds Try.pinned (OpenSpec.ofChange woundStillWrong)

/-- 'tachographlaw17.WriteTakes': WHATEVER THE INPUT: true; the input reads as it did. -/
def writeTakesSpec : ChangeSpec := { name := "writeTakes", fn := fun _ => fun
  | [d1, d2, d3] => { results := [.lit (.bool true)], args := [d1, d2, d3] }
  | _ => none }
def writeTakesRow : OpenClaim := { program := "yteolgkjokhmmfaa", sum := "e4450a44a64fc953813a29e4816c3bf912d98f94ce5772ac9783127d63dfa6ee", func := "tachograph/tachographlaw17.WriteTakes", spec := "writeTakes", unfollowed := true, recurses := true, plainKeys := false, apart := false }
def WriteTakesSaid : Prop := writeTakesRow.holds Try.pinned (OpenSpec.ofChange writeTakesSpec)

/-- ITS FALSE NEIGHBOUR: 'it returns false'. Refute it at one input. -/
def writeTakesWrong : ChangeSpec := { name := "writeTakes", fn := fun _ => fun
  | [d1, d2, d3] => { results := [.lit (.bool false)], args := [d1, d2, d3] }
  | _ => none }
def WriteTakesWrongFalsely : Prop := writeTakesRow.holds Try.pinned (OpenSpec.ofChange writeTakesWrong)

/-- 'tachographlaw18.ReadRight': WHATEVER THE INPUT: true; the input reads as it did. -/
def readRightSpec : ChangeSpec := { name := "readRight", fn := fun _ => fun
  | [d] => { results := [.lit (.bool true)], args := [d] }
  | _ => none }
def readRightRow : OpenClaim := { program := "yteolgkjokhmmfaa", sum := "e4450a44a64fc953813a29e4816c3bf912d98f94ce5772ac9783127d63dfa6ee", func := "tachograph/tachographlaw18.ReadRight", spec := "readRight", unfollowed := true, recurses := true, plainKeys := false, apart := false }
def ReadRightSaid : Prop := readRightRow.holds Try.pinned (OpenSpec.ofChange readRightSpec)

/-- ITS FALSE NEIGHBOUR: 'it returns false'. Refute it at one input. -/
def readRightWrong : ChangeSpec := { name := "readRight", fn := fun _ => fun
  | [d] => { results := [.lit (.bool false)], args := [d] }
  | _ => none }
def ReadRightWrongFalsely : Prop := readRightRow.holds Try.pinned (OpenSpec.ofChange readRightWrong)

/- THE SECOND FORM. 'bulk': how many values and letters a reading holds, each counted each time it is reached (what is shared counts as often as it is met; a slice's spare places count too). A statement '..UptoSaid' is the law's where the arguments, and the package variables that the reading takes, are together of bulk at most 1048576: NARROWER than '..Said'. Prove '..Said' where nothing that the law and all that it calls make is longer than what came in: it says more and counts as full. Else prove '..UptoSaid'. A law counts once. -/
mutual
def uptoBulk {H : Type} : DataW H → Nat
  | .lit (.string bytes) => bytes.length + 1
  | .lit _ => 1
  | .nil => 1
  | .ptr d => uptoBulk d + 1
  | .slice elems spare => uptoBulkAll elems + uptoBulkAll spare + 1
  | .agg parts => uptoBulkAll parts + 1
  | .iface _ d => uptoBulk d + 1
  | .map entries => uptoBulkEntries entries + 1
  | .held _ => 1
def uptoBulkAll {H : Type} : List (DataW H) → Nat
  | [] => 0
  | d :: r => uptoBulk d + uptoBulkAll r
def uptoBulkEntries {H : Type} : List (Lit × DataW H) → Nat
  | [] => 0
  | x :: r => uptoBulkEntry x + uptoBulkEntries r
def uptoBulkEntry {H : Type} : Lit × DataW H → Nat
  | (.string bytes, d) => bytes.length + uptoBulk d + 1
  | (_, d) => uptoBulk d + 1
 end
def uptoSmall : (H : Type) → List (DataW H) → Bool := fun _ ds => decide (uptoBulkAll ds ≤ 1048576)
def OpenSpec.upto (s : _root_.Go.ChangeSpec) : _root_.Go.OpenSpec := { _root_.Go.OpenSpec.ofChange s with cond := some uptoSmall }

/-- 'tachographlaw04.CrcRows', WHERE WHAT IT READS IS OF BULK AT MOST 1048576: true; the input reads as it did. -/
def crcRowsUptoRow : OpenClaim := { program := "yteolgkjokhmmfaa", sum := "e4450a44a64fc953813a29e4816c3bf912d98f94ce5772ac9783127d63dfa6ee", func := "tachograph/tachographlaw04.CrcRows", spec := "crcRows", plainKeys := false, apart := false, narrowed := true }
def CrcRowsUptoSaid : Prop := crcRowsUptoRow.holds Try.pinned (OpenSpec.upto crcRowsSpec)

/-- 'tachographlaw04.CrcTold', WHERE WHAT IT READS IS OF BULK AT MOST 1048576: true; the input reads as it did. -/
def crcToldUptoRow : OpenClaim := { program := "yteolgkjokhmmfaa", sum := "e4450a44a64fc953813a29e4816c3bf912d98f94ce5772ac9783127d63dfa6ee", func := "tachograph/tachographlaw04.CrcTold", spec := "crcTold", plainKeys := false, apart := false, narrowed := true }
def CrcToldUptoSaid : Prop := crcToldUptoRow.holds Try.pinned (OpenSpec.upto crcToldSpec)

/-- 'tachographlaw04.CrcSums', WHERE WHAT IT READS IS OF BULK AT MOST 1048576: true; the input reads as it did. -/
def crcSumsUptoRow : OpenClaim := { program := "yteolgkjokhmmfaa", sum := "e4450a44a64fc953813a29e4816c3bf912d98f94ce5772ac9783127d63dfa6ee", func := "tachograph/tachographlaw04.CrcSums", spec := "crcSums", plainKeys := false, apart := false, narrowed := true }
def CrcSumsUptoSaid : Prop := crcSumsUptoRow.holds Try.pinned (OpenSpec.upto crcSumsSpec)

/-- 'tachographlaw05.FramePuts', WHERE WHAT IT READS IS OF BULK AT MOST 1048576: true; the input reads as it did. -/
def framePutsUptoRow : OpenClaim := { program := "yteolgkjokhmmfaa", sum := "e4450a44a64fc953813a29e4816c3bf912d98f94ce5772ac9783127d63dfa6ee", func := "tachograph/tachographlaw05.FramePuts", spec := "framePuts", unfollowed := true, recurses := true, plainKeys := false, apart := false, narrowed := true }
def FramePutsUptoSaid : Prop := framePutsUptoRow.holds Try.pinned (OpenSpec.upto framePutsSpec)

/-- 'tachographlaw05.FrameGets', WHERE WHAT IT READS IS OF BULK AT MOST 1048576: true; the input reads as it did. -/
def frameGetsUptoRow : OpenClaim := { program := "yteolgkjokhmmfaa", sum := "e4450a44a64fc953813a29e4816c3bf912d98f94ce5772ac9783127d63dfa6ee", func := "tachograph/tachographlaw05.FrameGets", spec := "frameGets", unfollowed := true, recurses := true, plainKeys := false, apart := false, narrowed := true }
def FrameGetsUptoSaid : Prop := frameGetsUptoRow.holds Try.pinned (OpenSpec.upto frameGetsSpec)

/-- 'tachographlaw05.FrameShort', WHERE WHAT IT READS IS OF BULK AT MOST 1048576: true; the input reads as it did. -/
def frameShortUptoRow : OpenClaim := { program := "yteolgkjokhmmfaa", sum := "e4450a44a64fc953813a29e4816c3bf912d98f94ce5772ac9783127d63dfa6ee", func := "tachograph/tachographlaw05.FrameShort", spec := "frameShort", unfollowed := true, recurses := true, plainKeys := false, apart := false, narrowed := true }
def FrameShortUptoSaid : Prop := frameShortUptoRow.holds Try.pinned (OpenSpec.upto frameShortSpec)

/-- 'tachographlaw05.FrameTold', WHERE WHAT IT READS IS OF BULK AT MOST 1048576: true; the input reads as it did. -/
def frameToldUptoRow : OpenClaim := { program := "yteolgkjokhmmfaa", sum := "e4450a44a64fc953813a29e4816c3bf912d98f94ce5772ac9783127d63dfa6ee", func := "tachograph/tachographlaw05.FrameTold", spec := "frameTold", unfollowed := true, recurses := true, plainKeys := false, apart := false, narrowed := true }
def FrameToldUptoSaid : Prop := frameToldUptoRow.holds Try.pinned (OpenSpec.upto frameToldSpec)

/-- 'tachographlaw06.FindYet', WHERE WHAT IT READS IS OF BULK AT MOST 1048576: true; the input reads as it did. -/
def findYetUptoRow : OpenClaim := { program := "yteolgkjokhmmfaa", sum := "e4450a44a64fc953813a29e4816c3bf912d98f94ce5772ac9783127d63dfa6ee", func := "tachograph/tachographlaw06.FindYet", spec := "findYet", unfollowed := true, recurses := true, plainKeys := false, apart := false, narrowed := true }
def FindYetUptoSaid : Prop := findYetUptoRow.holds Try.pinned (OpenSpec.upto findYetSpec)

/-- 'tachographlaw06.FindPlaces', WHERE WHAT IT READS IS OF BULK AT MOST 1048576: true; the input reads as it did. -/
def findPlacesUptoRow : OpenClaim := { program := "yteolgkjokhmmfaa", sum := "e4450a44a64fc953813a29e4816c3bf912d98f94ce5772ac9783127d63dfa6ee", func := "tachograph/tachographlaw06.FindPlaces", spec := "findPlaces", unfollowed := true, recurses := true, plainKeys := false, apart := false, narrowed := true }
def FindPlacesUptoSaid : Prop := findPlacesUptoRow.holds Try.pinned (OpenSpec.upto findPlacesSpec)

/-- 'tachographtop.TopNames', WHERE WHAT IT READS IS OF BULK AT MOST 1048576: true; the input reads as it did. -/
def topNamesUptoRow : OpenClaim := { program := "yteolgkjokhmmfaa", sum := "e4450a44a64fc953813a29e4816c3bf912d98f94ce5772ac9783127d63dfa6ee", func := "tachograph/tachographtop.TopNames", spec := "topNames", unfollowed := true, recurses := true, plainKeys := false, apart := false, narrowed := true }
def TopNamesUptoSaid : Prop := topNamesUptoRow.holds Try.pinned (OpenSpec.upto topNamesSpec)

/-- 'tachographlaw06.FindFrames', WHERE WHAT IT READS IS OF BULK AT MOST 1048576: true; the input reads as it did. -/
def findFramesUptoRow : OpenClaim := { program := "yteolgkjokhmmfaa", sum := "e4450a44a64fc953813a29e4816c3bf912d98f94ce5772ac9783127d63dfa6ee", func := "tachograph/tachographlaw06.FindFrames", spec := "findFrames", unfollowed := true, recurses := true, plainKeys := false, apart := false, narrowed := true }
def FindFramesUptoSaid : Prop := findFramesUptoRow.holds Try.pinned (OpenSpec.upto findFramesSpec)

/-- 'tachographlaw07.SegsAll', WHERE WHAT IT READS IS OF BULK AT MOST 1048576: true; the input reads as it did. -/
def segsAllUptoRow : OpenClaim := { program := "yteolgkjokhmmfaa", sum := "e4450a44a64fc953813a29e4816c3bf912d98f94ce5772ac9783127d63dfa6ee", func := "tachograph/tachographlaw07.SegsAll", spec := "segsAll", unfollowed := true, recurses := true, plainKeys := false, apart := false, narrowed := true }
def SegsAllUptoSaid : Prop := segsAllUptoRow.holds Try.pinned (OpenSpec.upto segsAllSpec)

/-- 'tachographlaw07.SegsBehind', WHERE WHAT IT READS IS OF BULK AT MOST 1048576: true; the input reads as it did. -/
def segsBehindUptoRow : OpenClaim := { program := "yteolgkjokhmmfaa", sum := "e4450a44a64fc953813a29e4816c3bf912d98f94ce5772ac9783127d63dfa6ee", func := "tachograph/tachographlaw07.SegsBehind", spec := "segsBehind", unfollowed := true, recurses := true, plainKeys := false, apart := false, narrowed := true }
def SegsBehindUptoSaid : Prop := segsBehindUptoRow.holds Try.pinned (OpenSpec.upto segsBehindSpec)

/-- 'tachographlaw24.SizeGrows', WHERE WHAT IT READS IS OF BULK AT MOST 1048576: true; the input reads as it did. -/
def sizeGrowsUptoRow : OpenClaim := { program := "yteolgkjokhmmfaa", sum := "e4450a44a64fc953813a29e4816c3bf912d98f94ce5772ac9783127d63dfa6ee", func := "tachograph/tachographlaw24.SizeGrows", spec := "sizeGrows", unfollowed := true, recurses := true, plainKeys := false, apart := false, narrowed := true }
def SizeGrowsUptoSaid : Prop := sizeGrowsUptoRow.holds Try.pinned (OpenSpec.upto sizeGrowsSpec)

/-- 'tachographlaw14.BlockPuts', WHERE WHAT IT READS IS OF BULK AT MOST 1048576: true; the input reads as it did. -/
def blockPutsUptoRow : OpenClaim := { program := "yteolgkjokhmmfaa", sum := "e4450a44a64fc953813a29e4816c3bf912d98f94ce5772ac9783127d63dfa6ee", func := "tachograph/tachographlaw14.BlockPuts", spec := "blockPuts", unfollowed := true, recurses := true, plainKeys := false, apart := false, narrowed := true }
def BlockPutsUptoSaid : Prop := blockPutsUptoRow.holds Try.pinned (OpenSpec.upto blockPutsSpec)

/-- 'tachographlaw07.SegsOf', WHERE WHAT IT READS IS OF BULK AT MOST 1048576: true; the input reads as it did. -/
def segsOfUptoRow : OpenClaim := { program := "yteolgkjokhmmfaa", sum := "e4450a44a64fc953813a29e4816c3bf912d98f94ce5772ac9783127d63dfa6ee", func := "tachograph/tachographlaw07.SegsOf", spec := "segsOf", unfollowed := true, recurses := true, plainKeys := false, apart := false, narrowed := true }
def SegsOfUptoSaid : Prop := segsOfUptoRow.holds Try.pinned (OpenSpec.upto segsOfSpec)

/-- 'tachographlaw14.BlockLonger', WHERE WHAT IT READS IS OF BULK AT MOST 1048576: true; the input reads as it did. -/
def blockLongerUptoRow : OpenClaim := { program := "yteolgkjokhmmfaa", sum := "e4450a44a64fc953813a29e4816c3bf912d98f94ce5772ac9783127d63dfa6ee", func := "tachograph/tachographlaw14.BlockLonger", spec := "blockLonger", unfollowed := true, recurses := true, plainKeys := false, apart := false, narrowed := true }
def BlockLongerUptoSaid : Prop := blockLongerUptoRow.holds Try.pinned (OpenSpec.upto blockLongerSpec)

/-- 'tachographlaw08.FeedChunks', WHERE WHAT IT READS IS OF BULK AT MOST 1048576: true; the input reads as it did. -/
def feedChunksUptoRow : OpenClaim := { program := "yteolgkjokhmmfaa", sum := "e4450a44a64fc953813a29e4816c3bf912d98f94ce5772ac9783127d63dfa6ee", func := "tachograph/tachographlaw08.FeedChunks", spec := "feedChunks", unfollowed := true, recurses := true, plainKeys := false, apart := false, narrowed := true }
def FeedChunksUptoSaid : Prop := feedChunksUptoRow.holds Try.pinned (OpenSpec.upto feedChunksSpec)

/-- 'tachographlaw11.SigbinPuts', WHERE WHAT IT READS IS OF BULK AT MOST 1048576: true; the input reads as it did. -/
def sigbinPutsUptoRow : OpenClaim := { program := "yteolgkjokhmmfaa", sum := "e4450a44a64fc953813a29e4816c3bf912d98f94ce5772ac9783127d63dfa6ee", func := "tachograph/tachographlaw11.SigbinPuts", spec := "sigbinPuts", unfollowed := true, recurses := true, plainKeys := false, apart := false, narrowed := true }
def SigbinPutsUptoSaid : Prop := sigbinPutsUptoRow.holds Try.pinned (OpenSpec.upto sigbinPutsSpec)

/-- 'tachographlaw25.WoundStill', WHERE WHAT IT READS IS OF BULK AT MOST 1048576: true; the input reads as it did. -/
def woundStillUptoRow : OpenClaim := { program := "yteolgkjokhmmfaa", sum := "e4450a44a64fc953813a29e4816c3bf912d98f94ce5772ac9783127d63dfa6ee", func := "tachograph/tachographlaw25.WoundStill", spec := "woundStill", unfollowed := true, recurses := true, plainKeys := false, apart := false, narrowed := true }
def WoundStillUptoSaid : Prop := woundStillUptoRow.holds Try.pinned (OpenSpec.upto woundStillSpec)

/-- 'tachographlaw17.WriteTakes', WHERE WHAT IT READS IS OF BULK AT MOST 1048576: true; the input reads as it did. -/
def writeTakesUptoRow : OpenClaim := { program := "yteolgkjokhmmfaa", sum := "e4450a44a64fc953813a29e4816c3bf912d98f94ce5772ac9783127d63dfa6ee", func := "tachograph/tachographlaw17.WriteTakes", spec := "writeTakes", unfollowed := true, recurses := true, plainKeys := false, apart := false, narrowed := true }
def WriteTakesUptoSaid : Prop := writeTakesUptoRow.holds Try.pinned (OpenSpec.upto writeTakesSpec)

/-- 'tachographlaw18.ReadRight', WHERE WHAT IT READS IS OF BULK AT MOST 1048576: true; the input reads as it did. -/
def readRightUptoRow : OpenClaim := { program := "yteolgkjokhmmfaa", sum := "e4450a44a64fc953813a29e4816c3bf912d98f94ce5772ac9783127d63dfa6ee", func := "tachograph/tachographlaw18.ReadRight", spec := "readRight", unfollowed := true, recurses := true, plainKeys := false, apart := false, narrowed := true }
def ReadRightUptoSaid : Prop := readRightUptoRow.holds Try.pinned (OpenSpec.upto readRightSpec)

end Rows
end Go.Proofs.Yteolgkjokhmmfaa
