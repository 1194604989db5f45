/-
  NARROWER THAN 'FOR EVERY INPUT', by the rows' own cells (each row's printed sentence says how): MsumRuns: laid · ProofRoots: laid · ProofSums: laid · ProofMakes: laid · ProofOnly: laid · ProofWrites: laid · ProofReads: laid · LeafWays: laid · LeafAlone: laid · LeafPlaces: laid.
  DERIVED. THE GIVEN ROWS OF THIS SEAT. 10 by the template 'for every input the law returns true; each argument reads behind the call as it read before'; 0 by the template 'total and deterministic' (their statements: YtngmpcmeebcdmaaDoorTotals.lean).
  GIVEN WITH THE SEED: the statements are not yours to turn. If you find one false, say at which input.
  Laid BY PROGRAM, IN A SANDBOX (cutbox-rows.mjs): the forced cells as the released guide's own fill.sh prints them over the translation 825ac5f34e1c3dca… (all of the seat's roots in one cut). By AI agents, Wed Nov 11 2026. No macro, syntax, notation, axiom, sorry.
-/
import Derived.Test.YtngmpcmeebcdmaaDoorChecked
import GoSem.Claim
import GoSem.ClaimJoined
import GoSem.ClaimMapViews
import Derived.JoinedTies
import Derived.KernelRfl
namespace Go.Proofs.YtngmpcmeebcdmaaDoor
/- THE CELL 'sum', in the pinned program and in every row, IS THE sha256 OF THE DUMP (.gsa) THAT YtngmpcmeebcdmaaDoorProg.lean LOADS. Nothing in Lean hashes anything: it is a label: what it is worth is what the hold of that sum in a sandbox is worth. -/
noncomputable def Tryd.pinned : Pinned := { name := "ytngmpcmeebcdmaadoor", sum := "825ac5f34e1c3dcaa65b7166975433b78aa633d949f72a15ce8794da4a6ca3ce", checked := Tryd.checked }
namespace Rows
def none {H : Type} : Left H := { results := [], args := [] }

/- WHAT THE LISTED PACKAGE-LEVEL VARIABLES READ AS WHEN THE CALL BEGINS. Each datum BY PROGRAM (the guide's laid-datum.mjs) off the statement by which the dump's own 'gosem.cut.vars' lays the variable. In a bare row this is a premise. The card (YtngmpcmeebcdmaaDoorCards.lean) ties it to the program's text. -/
def laid_moneyer_sha_start {H : Type} : DataW H := .agg [.lit (.int .u32 1779033703), .lit (.int .u32 3144134277), .lit (.int .u32 1013904242), .lit (.int .u32 2773480762), .lit (.int .u32 1359893119), .lit (.int .u32 2600822924), .lit (.int .u32 528734635), .lit (.int .u32 1541459225)]
def laid_moneyer_sha_rounds {H : Type} : DataW H := .agg [.lit (.int .u32 1116352408), .lit (.int .u32 1899447441), .lit (.int .u32 3049323471), .lit (.int .u32 3921009573), .lit (.int .u32 961987163), .lit (.int .u32 1508970993), .lit (.int .u32 2453635748), .lit (.int .u32 2870763221), .lit (.int .u32 3624381080), .lit (.int .u32 310598401), .lit (.int .u32 607225278), .lit (.int .u32 1426881987), .lit (.int .u32 1925078388), .lit (.int .u32 2162078206), .lit (.int .u32 2614888103), .lit (.int .u32 3248222580), .lit (.int .u32 3835390401), .lit (.int .u32 4022224774), .lit (.int .u32 264347078), .lit (.int .u32 604807628), .lit (.int .u32 770255983), .lit (.int .u32 1249150122), .lit (.int .u32 1555081692), .lit (.int .u32 1996064986), .lit (.int .u32 2554220882), .lit (.int .u32 2821834349), .lit (.int .u32 2952996808), .lit (.int .u32 3210313671), .lit (.int .u32 3336571891), .lit (.int .u32 3584528711), .lit (.int .u32 113926993), .lit (.int .u32 338241895), .lit (.int .u32 666307205), .lit (.int .u32 773529912), .lit (.int .u32 1294757372), .lit (.int .u32 1396182291), .lit (.int .u32 1695183700), .lit (.int .u32 1986661051), .lit (.int .u32 2177026350), .lit (.int .u32 2456956037), .lit (.int .u32 2730485921), .lit (.int .u32 2820302411), .lit (.int .u32 3259730800), .lit (.int .u32 3345764771), .lit (.int .u32 3516065817), .lit (.int .u32 3600352804), .lit (.int .u32 4094571909), .lit (.int .u32 275423344), .lit (.int .u32 430227734), .lit (.int .u32 506948616), .lit (.int .u32 659060556), .lit (.int .u32 883997877), .lit (.int .u32 958139571), .lit (.int .u32 1322822218), .lit (.int .u32 1537002063), .lit (.int .u32 1747873779), .lit (.int .u32 1955562222), .lit (.int .u32 2024104815), .lit (.int .u32 2227730452), .lit (.int .u32 2361852424), .lit (.int .u32 2428436474), .lit (.int .u32 2756734187), .lit (.int .u32 3204031479), .lit (.int .u32 3329325298)]

/-- 'moneyerlaw04.MsumRuns': WHATEVER THE INPUT: true; the input reads as it did. -/
def msumRunsSpec : ChangeSpec := { name := "msumRuns", fn := fun _ => fun
  | [d] => { results := [.lit (.bool true)], args := [d] }
  | _ => none }
def msumRunsRow : OpenClaim := { program := "ytngmpcmeebcdmaadoor", sum := "825ac5f34e1c3dcaa65b7166975433b78aa633d949f72a15ce8794da4a6ca3ce", func := "moneyer/moneyerlaw04.MsumRuns", spec := "msumRuns", inPlace := ["math/bits.Add64", "internal/bytealg.Compare", "sync/atomic.LoadUint32", "(*internal/sync.Mutex).Lock", "internal/race.Disable", "sync/atomic.CompareAndSwapInt32", "internal/race.Enable", "internal/race.Acquire", "(*internal/sync.Mutex).lockSlow", "internal/sync.runtime_canSpin", "internal/sync.runtime_doSpin", "internal/sync.throw", "internal/sync.runtime_nanotime", "internal/sync.runtime_SemacquireMutex", "sync/atomic.AddInt32", "(*internal/sync.Mutex).Unlock", "internal/race.ReleaseMerge", "(*internal/sync.Mutex).unlockSlow", "internal/sync.fatal", "internal/sync.runtime_Semrelease", "sync/atomic.StoreUint32"], unfollowed := true, recurses := true, named := ["moneyer/sha.start", "moneyer/sha.rounds"], plainKeys := false, apart := false, laid := [("moneyer/sha.start", laid_moneyer_sha_start), ("moneyer/sha.rounds", laid_moneyer_sha_rounds)] }
def MsumRunsSaid : Prop := msumRunsRow.holds Tryd.pinned (OpenSpec.ofChange msumRunsSpec)

/-- ITS FALSE NEIGHBOUR: 'it returns false'. Refute it at one input. -/
def msumRunsWrong : ChangeSpec := { name := "msumRuns", fn := fun _ => fun
  | [d] => { results := [.lit (.bool false)], args := [d] }
  | _ => none }
def MsumRunsWrongFalsely : Prop := msumRunsRow.holds Tryd.pinned (OpenSpec.ofChange msumRunsWrong)

/-- 'moneyerlaw05.ProofRoots': WHATEVER THE INPUT: true; the input reads as it did. -/
def proofRootsSpec : ChangeSpec := { name := "proofRoots", fn := fun _ => fun
  | [d1, d2, d3] => { results := [.lit (.bool true)], args := [d1, d2, d3] }
  | _ => none }
def proofRootsRow : OpenClaim := { program := "ytngmpcmeebcdmaadoor", sum := "825ac5f34e1c3dcaa65b7166975433b78aa633d949f72a15ce8794da4a6ca3ce", func := "moneyer/moneyerlaw05.ProofRoots", spec := "proofRoots", inPlace := ["math/bits.Add64", "internal/bytealg.Compare", "sync/atomic.LoadUint32", "(*internal/sync.Mutex).Lock", "internal/race.Disable", "sync/atomic.CompareAndSwapInt32", "internal/race.Enable", "internal/race.Acquire", "(*internal/sync.Mutex).lockSlow", "internal/sync.runtime_canSpin", "internal/sync.runtime_doSpin", "internal/sync.throw", "internal/sync.runtime_nanotime", "internal/sync.runtime_SemacquireMutex", "sync/atomic.AddInt32", "(*internal/sync.Mutex).Unlock", "internal/race.ReleaseMerge", "(*internal/sync.Mutex).unlockSlow", "internal/sync.fatal", "internal/sync.runtime_Semrelease", "sync/atomic.StoreUint32"], unfollowed := true, recurses := true, named := ["moneyer/sha.start", "moneyer/sha.rounds"], plainKeys := false, apart := false, laid := [("moneyer/sha.start", laid_moneyer_sha_start), ("moneyer/sha.rounds", laid_moneyer_sha_rounds)] }
def ProofRootsSaid : Prop := proofRootsRow.holds Tryd.pinned (OpenSpec.ofChange proofRootsSpec)

/-- ITS FALSE NEIGHBOUR: 'it returns false'. Refute it at one input. -/
def proofRootsWrong : ChangeSpec := { name := "proofRoots", fn := fun _ => fun
  | [d1, d2, d3] => { results := [.lit (.bool false)], args := [d1, d2, d3] }
  | _ => none }
def ProofRootsWrongFalsely : Prop := proofRootsRow.holds Tryd.pinned (OpenSpec.ofChange proofRootsWrong)

/-- 'moneyerlaw05.ProofSums': WHATEVER THE INPUT: true; the input reads as it did. -/
def proofSumsSpec : ChangeSpec := { name := "proofSums", fn := fun _ => fun
  | [d1, d2, d3] => { results := [.lit (.bool true)], args := [d1, d2, d3] }
  | _ => none }
def proofSumsRow : OpenClaim := { program := "ytngmpcmeebcdmaadoor", sum := "825ac5f34e1c3dcaa65b7166975433b78aa633d949f72a15ce8794da4a6ca3ce", func := "moneyer/moneyerlaw05.ProofSums", spec := "proofSums", inPlace := ["math/bits.Add64", "internal/bytealg.Compare", "sync/atomic.LoadUint32", "(*internal/sync.Mutex).Lock", "internal/race.Disable", "sync/atomic.CompareAndSwapInt32", "internal/race.Enable", "internal/race.Acquire", "(*internal/sync.Mutex).lockSlow", "internal/sync.runtime_canSpin", "internal/sync.runtime_doSpin", "internal/sync.throw", "internal/sync.runtime_nanotime", "internal/sync.runtime_SemacquireMutex", "sync/atomic.AddInt32", "(*internal/sync.Mutex).Unlock", "internal/race.ReleaseMerge", "(*internal/sync.Mutex).unlockSlow", "internal/sync.fatal", "internal/sync.runtime_Semrelease", "sync/atomic.StoreUint32"], unfollowed := true, recurses := true, named := ["moneyer/sha.start", "moneyer/sha.rounds"], plainKeys := false, apart := false, laid := [("moneyer/sha.start", laid_moneyer_sha_start), ("moneyer/sha.rounds", laid_moneyer_sha_rounds)] }
def ProofSumsSaid : Prop := proofSumsRow.holds Tryd.pinned (OpenSpec.ofChange proofSumsSpec)

/-- ITS FALSE NEIGHBOUR: 'it returns false'. Refute it at one input. -/
def proofSumsWrong : ChangeSpec := { name := "proofSums", fn := fun _ => fun
  | [d1, d2, d3] => { results := [.lit (.bool false)], args := [d1, d2, d3] }
  | _ => none }
def ProofSumsWrongFalsely : Prop := proofSumsRow.holds Tryd.pinned (OpenSpec.ofChange proofSumsWrong)

/-- 'moneyerlaw05.ProofMakes': WHATEVER THE INPUT: true; the input reads as it did. -/
def proofMakesSpec : ChangeSpec := { name := "proofMakes", fn := fun _ => fun
  | [d1, d2] => { results := [.lit (.bool true)], args := [d1, d2] }
  | _ => none }
def proofMakesRow : OpenClaim := { program := "ytngmpcmeebcdmaadoor", sum := "825ac5f34e1c3dcaa65b7166975433b78aa633d949f72a15ce8794da4a6ca3ce", func := "moneyer/moneyerlaw05.ProofMakes", spec := "proofMakes", inPlace := ["math/bits.Add64", "internal/bytealg.Compare", "sync/atomic.LoadUint32", "(*internal/sync.Mutex).Lock", "internal/race.Disable", "sync/atomic.CompareAndSwapInt32", "internal/race.Enable", "internal/race.Acquire", "(*internal/sync.Mutex).lockSlow", "internal/sync.runtime_canSpin", "internal/sync.runtime_doSpin", "internal/sync.throw", "internal/sync.runtime_nanotime", "internal/sync.runtime_SemacquireMutex", "sync/atomic.AddInt32", "(*internal/sync.Mutex).Unlock", "internal/race.ReleaseMerge", "(*internal/sync.Mutex).unlockSlow", "internal/sync.fatal", "internal/sync.runtime_Semrelease", "sync/atomic.StoreUint32"], unfollowed := true, recurses := true, named := ["moneyer/sha.start", "moneyer/sha.rounds"], plainKeys := false, apart := false, laid := [("moneyer/sha.start", laid_moneyer_sha_start), ("moneyer/sha.rounds", laid_moneyer_sha_rounds)] }
def ProofMakesSaid : Prop := proofMakesRow.holds Tryd.pinned (OpenSpec.ofChange proofMakesSpec)

/-- ITS FALSE NEIGHBOUR: 'it returns false'. Refute it at one input. -/
def proofMakesWrong : ChangeSpec := { name := "proofMakes", fn := fun _ => fun
  | [d1, d2] => { results := [.lit (.bool false)], args := [d1, d2] }
  | _ => none }
def ProofMakesWrongFalsely : Prop := proofMakesRow.holds Tryd.pinned (OpenSpec.ofChange proofMakesWrong)

/-- 'moneyerlaw05.ProofOnly': WHATEVER THE INPUT: true; the input reads as it did. -/
def proofOnlySpec : ChangeSpec := { name := "proofOnly", fn := fun _ => fun
  | [d1, d2, d3, d4, d5, d6, d7] => { results := [.lit (.bool true)], args := [d1, d2, d3, d4, d5, d6, d7] }
  | _ => none }
def proofOnlyRow : OpenClaim := { program := "ytngmpcmeebcdmaadoor", sum := "825ac5f34e1c3dcaa65b7166975433b78aa633d949f72a15ce8794da4a6ca3ce", func := "moneyer/moneyerlaw05.ProofOnly", spec := "proofOnly", inPlace := ["math/bits.Add64", "internal/bytealg.Compare", "sync/atomic.LoadUint32", "(*internal/sync.Mutex).Lock", "internal/race.Disable", "sync/atomic.CompareAndSwapInt32", "internal/race.Enable", "internal/race.Acquire", "(*internal/sync.Mutex).lockSlow", "internal/sync.runtime_canSpin", "internal/sync.runtime_doSpin", "internal/sync.throw", "internal/sync.runtime_nanotime", "internal/sync.runtime_SemacquireMutex", "sync/atomic.AddInt32", "(*internal/sync.Mutex).Unlock", "internal/race.ReleaseMerge", "(*internal/sync.Mutex).unlockSlow", "internal/sync.fatal", "internal/sync.runtime_Semrelease", "sync/atomic.StoreUint32"], unfollowed := true, recurses := true, named := ["moneyer/sha.start", "moneyer/sha.rounds"], plainKeys := false, apart := false, laid := [("moneyer/sha.start", laid_moneyer_sha_start), ("moneyer/sha.rounds", laid_moneyer_sha_rounds)] }
def ProofOnlySaid : Prop := proofOnlyRow.holds Tryd.pinned (OpenSpec.ofChange proofOnlySpec)

/-- ITS FALSE NEIGHBOUR: 'it returns false'. Refute it at one input. -/
def proofOnlyWrong : ChangeSpec := { name := "proofOnly", fn := fun _ => fun
  | [d1, d2, d3, d4, d5, d6, d7] => { results := [.lit (.bool false)], args := [d1, d2, d3, d4, d5, d6, d7] }
  | _ => none }
def ProofOnlyWrongFalsely : Prop := proofOnlyRow.holds Tryd.pinned (OpenSpec.ofChange proofOnlyWrong)

/-- 'moneyerlaw05.ProofWrites': WHATEVER THE INPUT: true; the input reads as it did. -/
def proofWritesSpec : ChangeSpec := { name := "proofWrites", fn := fun _ => fun
  | [d] => { results := [.lit (.bool true)], args := [d] }
  | _ => none }
def proofWritesRow : OpenClaim := { program := "ytngmpcmeebcdmaadoor", sum := "825ac5f34e1c3dcaa65b7166975433b78aa633d949f72a15ce8794da4a6ca3ce", func := "moneyer/moneyerlaw05.ProofWrites", spec := "proofWrites", inPlace := ["math/bits.Add64", "internal/bytealg.Compare", "sync/atomic.LoadUint32", "(*internal/sync.Mutex).Lock", "internal/race.Disable", "sync/atomic.CompareAndSwapInt32", "internal/race.Enable", "internal/race.Acquire", "(*internal/sync.Mutex).lockSlow", "internal/sync.runtime_canSpin", "internal/sync.runtime_doSpin", "internal/sync.throw", "internal/sync.runtime_nanotime", "internal/sync.runtime_SemacquireMutex", "sync/atomic.AddInt32", "(*internal/sync.Mutex).Unlock", "internal/race.ReleaseMerge", "(*internal/sync.Mutex).unlockSlow", "internal/sync.fatal", "internal/sync.runtime_Semrelease", "sync/atomic.StoreUint32"], unfollowed := true, recurses := true, named := ["moneyer/sha.start", "moneyer/sha.rounds"], plainKeys := false, apart := false, laid := [("moneyer/sha.start", laid_moneyer_sha_start), ("moneyer/sha.rounds", laid_moneyer_sha_rounds)] }
def ProofWritesSaid : Prop := proofWritesRow.holds Tryd.pinned (OpenSpec.ofChange proofWritesSpec)

/-- ITS FALSE NEIGHBOUR: 'it returns false'. Refute it at one input. -/
def proofWritesWrong : ChangeSpec := { name := "proofWrites", fn := fun _ => fun
  | [d] => { results := [.lit (.bool false)], args := [d] }
  | _ => none }
def ProofWritesWrongFalsely : Prop := proofWritesRow.holds Tryd.pinned (OpenSpec.ofChange proofWritesWrong)

/-- 'moneyerlaw05.ProofReads': WHATEVER THE INPUT: true; the input reads as it did. -/
def proofReadsSpec : ChangeSpec := { name := "proofReads", fn := fun _ => fun
  | [d] => { results := [.lit (.bool true)], args := [d] }
  | _ => none }
def proofReadsRow : OpenClaim := { program := "ytngmpcmeebcdmaadoor", sum := "825ac5f34e1c3dcaa65b7166975433b78aa633d949f72a15ce8794da4a6ca3ce", func := "moneyer/moneyerlaw05.ProofReads", spec := "proofReads", inPlace := ["math/bits.Add64", "internal/bytealg.Compare", "sync/atomic.LoadUint32", "(*internal/sync.Mutex).Lock", "internal/race.Disable", "sync/atomic.CompareAndSwapInt32", "internal/race.Enable", "internal/race.Acquire", "(*internal/sync.Mutex).lockSlow", "internal/sync.runtime_canSpin", "internal/sync.runtime_doSpin", "internal/sync.throw", "internal/sync.runtime_nanotime", "internal/sync.runtime_SemacquireMutex", "sync/atomic.AddInt32", "(*internal/sync.Mutex).Unlock", "internal/race.ReleaseMerge", "(*internal/sync.Mutex).unlockSlow", "internal/sync.fatal", "internal/sync.runtime_Semrelease", "sync/atomic.StoreUint32"], unfollowed := true, recurses := true, named := ["moneyer/sha.start", "moneyer/sha.rounds"], plainKeys := false, apart := false, laid := [("moneyer/sha.start", laid_moneyer_sha_start), ("moneyer/sha.rounds", laid_moneyer_sha_rounds)] }
def ProofReadsSaid : Prop := proofReadsRow.holds Tryd.pinned (OpenSpec.ofChange proofReadsSpec)

/-- ITS FALSE NEIGHBOUR: 'it returns false'. Refute it at one input. -/
def proofReadsWrong : ChangeSpec := { name := "proofReads", fn := fun _ => fun
  | [d] => { results := [.lit (.bool false)], args := [d] }
  | _ => none }
def ProofReadsWrongFalsely : Prop := proofReadsRow.holds Tryd.pinned (OpenSpec.ofChange proofReadsWrong)

/-- 'moneyerlaw07.LeafWays': WHATEVER THE INPUT: true; the input reads as it did. -/
def leafWaysSpec : ChangeSpec := { name := "leafWays", fn := fun _ => fun
  | [d1, d2, d3] => { results := [.lit (.bool true)], args := [d1, d2, d3] }
  | _ => none }
def leafWaysRow : OpenClaim := { program := "ytngmpcmeebcdmaadoor", sum := "825ac5f34e1c3dcaa65b7166975433b78aa633d949f72a15ce8794da4a6ca3ce", func := "moneyer/moneyerlaw07.LeafWays", spec := "leafWays", inPlace := ["sync/atomic.LoadUint32", "(*internal/sync.Mutex).Lock", "internal/race.Disable", "sync/atomic.CompareAndSwapInt32", "internal/race.Enable", "internal/race.Acquire", "(*internal/sync.Mutex).lockSlow", "internal/sync.runtime_canSpin", "internal/sync.runtime_doSpin", "internal/sync.throw", "internal/sync.runtime_nanotime", "internal/sync.runtime_SemacquireMutex", "sync/atomic.AddInt32", "(*internal/sync.Mutex).Unlock", "internal/race.ReleaseMerge", "(*internal/sync.Mutex).unlockSlow", "internal/sync.fatal", "internal/sync.runtime_Semrelease", "sync/atomic.StoreUint32", "sync/atomic.AddInt64", "math/bits.Add64", "internal/bytealg.Compare"], unfollowed := true, recurses := true, named := ["moneyer/sha.start", "moneyer/sha.rounds"], plainKeys := false, apart := false, laid := [("moneyer/sha.start", laid_moneyer_sha_start), ("moneyer/sha.rounds", laid_moneyer_sha_rounds)] }
def LeafWaysSaid : Prop := leafWaysRow.holds Tryd.pinned (OpenSpec.ofChange leafWaysSpec)

/-- ITS FALSE NEIGHBOUR: 'it returns false'. Refute it at one input. -/
def leafWaysWrong : ChangeSpec := { name := "leafWays", fn := fun _ => fun
  | [d1, d2, d3] => { results := [.lit (.bool false)], args := [d1, d2, d3] }
  | _ => none }
def LeafWaysWrongFalsely : Prop := leafWaysRow.holds Tryd.pinned (OpenSpec.ofChange leafWaysWrong)

/-- 'moneyerlaw07.LeafAlone': WHATEVER THE INPUT: true; the input reads as it did. -/
def leafAloneSpec : ChangeSpec := { name := "leafAlone", fn := fun _ => fun
  | [d] => { results := [.lit (.bool true)], args := [d] }
  | _ => none }
def leafAloneRow : OpenClaim := { program := "ytngmpcmeebcdmaadoor", sum := "825ac5f34e1c3dcaa65b7166975433b78aa633d949f72a15ce8794da4a6ca3ce", func := "moneyer/moneyerlaw07.LeafAlone", spec := "leafAlone", inPlace := ["sync/atomic.LoadUint32", "(*internal/sync.Mutex).Lock", "internal/race.Disable", "sync/atomic.CompareAndSwapInt32", "internal/race.Enable", "internal/race.Acquire", "(*internal/sync.Mutex).lockSlow", "internal/sync.runtime_canSpin", "internal/sync.runtime_doSpin", "internal/sync.throw", "internal/sync.runtime_nanotime", "internal/sync.runtime_SemacquireMutex", "sync/atomic.AddInt32", "(*internal/sync.Mutex).Unlock", "internal/race.ReleaseMerge", "(*internal/sync.Mutex).unlockSlow", "internal/sync.fatal", "internal/sync.runtime_Semrelease", "sync/atomic.StoreUint32", "sync/atomic.AddInt64", "math/bits.Add64", "internal/bytealg.Compare"], unfollowed := true, recurses := true, named := ["moneyer/sha.start", "moneyer/sha.rounds"], plainKeys := false, apart := false, laid := [("moneyer/sha.start", laid_moneyer_sha_start), ("moneyer/sha.rounds", laid_moneyer_sha_rounds)] }
def LeafAloneSaid : Prop := leafAloneRow.holds Tryd.pinned (OpenSpec.ofChange leafAloneSpec)

/-- ITS FALSE NEIGHBOUR: 'it returns false'. Refute it at one input. -/
def leafAloneWrong : ChangeSpec := { name := "leafAlone", fn := fun _ => fun
  | [d] => { results := [.lit (.bool false)], args := [d] }
  | _ => none }
def LeafAloneWrongFalsely : Prop := leafAloneRow.holds Tryd.pinned (OpenSpec.ofChange leafAloneWrong)

/-- 'moneyerlaw07.LeafPlaces': WHATEVER THE INPUT: true; the input reads as it did. -/
def leafPlacesSpec : ChangeSpec := { name := "leafPlaces", fn := fun _ => fun
  | [d1, d2] => { results := [.lit (.bool true)], args := [d1, d2] }
  | _ => none }
def leafPlacesRow : OpenClaim := { program := "ytngmpcmeebcdmaadoor", sum := "825ac5f34e1c3dcaa65b7166975433b78aa633d949f72a15ce8794da4a6ca3ce", func := "moneyer/moneyerlaw07.LeafPlaces", spec := "leafPlaces", inPlace := ["sync/atomic.LoadUint32", "(*internal/sync.Mutex).Lock", "internal/race.Disable", "sync/atomic.CompareAndSwapInt32", "internal/race.Enable", "internal/race.Acquire", "(*internal/sync.Mutex).lockSlow", "internal/sync.runtime_canSpin", "internal/sync.runtime_doSpin", "internal/sync.throw", "internal/sync.runtime_nanotime", "internal/sync.runtime_SemacquireMutex", "sync/atomic.AddInt32", "(*internal/sync.Mutex).Unlock", "internal/race.ReleaseMerge", "(*internal/sync.Mutex).unlockSlow", "internal/sync.fatal", "internal/sync.runtime_Semrelease", "sync/atomic.StoreUint32", "sync/atomic.AddInt64", "math/bits.Add64", "internal/bytealg.Compare"], unfollowed := true, recurses := true, named := ["moneyer/sha.start", "moneyer/sha.rounds"], plainKeys := false, apart := false, laid := [("moneyer/sha.start", laid_moneyer_sha_start), ("moneyer/sha.rounds", laid_moneyer_sha_rounds)] }
def LeafPlacesSaid : Prop := leafPlacesRow.holds Tryd.pinned (OpenSpec.ofChange leafPlacesSpec)

/-- ITS FALSE NEIGHBOUR: 'it returns false'. Refute it at one input. -/
def leafPlacesWrong : ChangeSpec := { name := "leafPlaces", fn := fun _ => fun
  | [d1, d2] => { results := [.lit (.bool false)], args := [d1, d2] }
  | _ => none }
def LeafPlacesWrongFalsely : Prop := leafPlacesRow.holds Tryd.pinned (OpenSpec.ofChange leafPlacesWrong)

/- THE SECOND FORM. 'bulk': how many values and letters a reading holds, each counted each time it is reached (what is shared counts as often as it is met; a slice's spare places count too). A statement '..UptoSaid' is the law's where the arguments, and the package variables that the reading takes, are together of bulk at most 1048576: NARROWER than '..Said'. Prove '..Said' where nothing that the law and all that it calls make is longer than what came in: it says more and counts as full. Else prove '..UptoSaid'. A law counts once. -/
mutual
def uptoBulk {H : Type} : DataW H → Nat
  | .lit (.string bytes) => bytes.length + 1
  | .lit _ => 1
  | .nil => 1
  | .ptr d => uptoBulk d + 1
  | .slice elems spare => uptoBulkAll elems + uptoBulkAll spare + 1
  | .agg parts => uptoBulkAll parts + 1
  | .iface _ d => uptoBulk d + 1
  | .map entries => uptoBulkEntries entries + 1
  | .held _ => 1
def uptoBulkAll {H : Type} : List (DataW H) → Nat
  | [] => 0
  | d :: r => uptoBulk d + uptoBulkAll r
def uptoBulkEntries {H : Type} : List (Lit × DataW H) → Nat
  | [] => 0
  | x :: r => uptoBulkEntry x + uptoBulkEntries r
def uptoBulkEntry {H : Type} : Lit × DataW H → Nat
  | (.string bytes, d) => bytes.length + uptoBulk d + 1
  | (_, d) => uptoBulk d + 1
 end
def uptoSmall : (H : Type) → List (DataW H) → Bool := fun _ ds => decide (uptoBulkAll ds ≤ 1048576)
def OpenSpec.upto (s : _root_.Go.ChangeSpec) : _root_.Go.OpenSpec := { _root_.Go.OpenSpec.ofChange s with cond := some uptoSmall }

/-- 'moneyerlaw04.MsumRuns', WHERE WHAT IT READS IS OF BULK AT MOST 1048576: true; the input reads as it did. -/
def msumRunsUptoRow : OpenClaim := { program := "ytngmpcmeebcdmaadoor", sum := "825ac5f34e1c3dcaa65b7166975433b78aa633d949f72a15ce8794da4a6ca3ce", func := "moneyer/moneyerlaw04.MsumRuns", spec := "msumRuns", inPlace := ["math/bits.Add64", "internal/bytealg.Compare", "sync/atomic.LoadUint32", "(*internal/sync.Mutex).Lock", "internal/race.Disable", "sync/atomic.CompareAndSwapInt32", "internal/race.Enable", "internal/race.Acquire", "(*internal/sync.Mutex).lockSlow", "internal/sync.runtime_canSpin", "internal/sync.runtime_doSpin", "internal/sync.throw", "internal/sync.runtime_nanotime", "internal/sync.runtime_SemacquireMutex", "sync/atomic.AddInt32", "(*internal/sync.Mutex).Unlock", "internal/race.ReleaseMerge", "(*internal/sync.Mutex).unlockSlow", "internal/sync.fatal", "internal/sync.runtime_Semrelease", "sync/atomic.StoreUint32"], unfollowed := true, recurses := true, named := ["moneyer/sha.start", "moneyer/sha.rounds"], plainKeys := false, apart := false, laid := [("moneyer/sha.start", laid_moneyer_sha_start), ("moneyer/sha.rounds", laid_moneyer_sha_rounds)], narrowed := true }
def MsumRunsUptoSaid : Prop := msumRunsUptoRow.holds Tryd.pinned (OpenSpec.upto msumRunsSpec)

/-- 'moneyerlaw05.ProofRoots', WHERE WHAT IT READS IS OF BULK AT MOST 1048576: true; the input reads as it did. -/
def proofRootsUptoRow : OpenClaim := { program := "ytngmpcmeebcdmaadoor", sum := "825ac5f34e1c3dcaa65b7166975433b78aa633d949f72a15ce8794da4a6ca3ce", func := "moneyer/moneyerlaw05.ProofRoots", spec := "proofRoots", inPlace := ["math/bits.Add64", "internal/bytealg.Compare", "sync/atomic.LoadUint32", "(*internal/sync.Mutex).Lock", "internal/race.Disable", "sync/atomic.CompareAndSwapInt32", "internal/race.Enable", "internal/race.Acquire", "(*internal/sync.Mutex).lockSlow", "internal/sync.runtime_canSpin", "internal/sync.runtime_doSpin", "internal/sync.throw", "internal/sync.runtime_nanotime", "internal/sync.runtime_SemacquireMutex", "sync/atomic.AddInt32", "(*internal/sync.Mutex).Unlock", "internal/race.ReleaseMerge", "(*internal/sync.Mutex).unlockSlow", "internal/sync.fatal", "internal/sync.runtime_Semrelease", "sync/atomic.StoreUint32"], unfollowed := true, recurses := true, named := ["moneyer/sha.start", "moneyer/sha.rounds"], plainKeys := false, apart := false, laid := [("moneyer/sha.start", laid_moneyer_sha_start), ("moneyer/sha.rounds", laid_moneyer_sha_rounds)], narrowed := true }
def ProofRootsUptoSaid : Prop := proofRootsUptoRow.holds Tryd.pinned (OpenSpec.upto proofRootsSpec)

/-- 'moneyerlaw05.ProofSums', WHERE WHAT IT READS IS OF BULK AT MOST 1048576: true; the input reads as it did. -/
def proofSumsUptoRow : OpenClaim := { program := "ytngmpcmeebcdmaadoor", sum := "825ac5f34e1c3dcaa65b7166975433b78aa633d949f72a15ce8794da4a6ca3ce", func := "moneyer/moneyerlaw05.ProofSums", spec := "proofSums", inPlace := ["math/bits.Add64", "internal/bytealg.Compare", "sync/atomic.LoadUint32", "(*internal/sync.Mutex).Lock", "internal/race.Disable", "sync/atomic.CompareAndSwapInt32", "internal/race.Enable", "internal/race.Acquire", "(*internal/sync.Mutex).lockSlow", "internal/sync.runtime_canSpin", "internal/sync.runtime_doSpin", "internal/sync.throw", "internal/sync.runtime_nanotime", "internal/sync.runtime_SemacquireMutex", "sync/atomic.AddInt32", "(*internal/sync.Mutex).Unlock", "internal/race.ReleaseMerge", "(*internal/sync.Mutex).unlockSlow", "internal/sync.fatal", "internal/sync.runtime_Semrelease", "sync/atomic.StoreUint32"], unfollowed := true, recurses := true, named := ["moneyer/sha.start", "moneyer/sha.rounds"], plainKeys := false, apart := false, laid := [("moneyer/sha.start", laid_moneyer_sha_start), ("moneyer/sha.rounds", laid_moneyer_sha_rounds)], narrowed := true }
def ProofSumsUptoSaid : Prop := proofSumsUptoRow.holds Tryd.pinned (OpenSpec.upto proofSumsSpec)

/-- 'moneyerlaw05.ProofMakes', WHERE WHAT IT READS IS OF BULK AT MOST 1048576: true; the input reads as it did. -/
def proofMakesUptoRow : OpenClaim := { program := "ytngmpcmeebcdmaadoor", sum := "825ac5f34e1c3dcaa65b7166975433b78aa633d949f72a15ce8794da4a6ca3ce", func := "moneyer/moneyerlaw05.ProofMakes", spec := "proofMakes", inPlace := ["math/bits.Add64", "internal/bytealg.Compare", "sync/atomic.LoadUint32", "(*internal/sync.Mutex).Lock", "internal/race.Disable", "sync/atomic.CompareAndSwapInt32", "internal/race.Enable", "internal/race.Acquire", "(*internal/sync.Mutex).lockSlow", "internal/sync.runtime_canSpin", "internal/sync.runtime_doSpin", "internal/sync.throw", "internal/sync.runtime_nanotime", "internal/sync.runtime_SemacquireMutex", "sync/atomic.AddInt32", "(*internal/sync.Mutex).Unlock", "internal/race.ReleaseMerge", "(*internal/sync.Mutex).unlockSlow", "internal/sync.fatal", "internal/sync.runtime_Semrelease", "sync/atomic.StoreUint32"], unfollowed := true, recurses := true, named := ["moneyer/sha.start", "moneyer/sha.rounds"], plainKeys := false, apart := false, laid := [("moneyer/sha.start", laid_moneyer_sha_start), ("moneyer/sha.rounds", laid_moneyer_sha_rounds)], narrowed := true }
def ProofMakesUptoSaid : Prop := proofMakesUptoRow.holds Tryd.pinned (OpenSpec.upto proofMakesSpec)

/-- 'moneyerlaw05.ProofOnly', WHERE WHAT IT READS IS OF BULK AT MOST 1048576: true; the input reads as it did. -/
def proofOnlyUptoRow : OpenClaim := { program := "ytngmpcmeebcdmaadoor", sum := "825ac5f34e1c3dcaa65b7166975433b78aa633d949f72a15ce8794da4a6ca3ce", func := "moneyer/moneyerlaw05.ProofOnly", spec := "proofOnly", inPlace := ["math/bits.Add64", "internal/bytealg.Compare", "sync/atomic.LoadUint32", "(*internal/sync.Mutex).Lock", "internal/race.Disable", "sync/atomic.CompareAndSwapInt32", "internal/race.Enable", "internal/race.Acquire", "(*internal/sync.Mutex).lockSlow", "internal/sync.runtime_canSpin", "internal/sync.runtime_doSpin", "internal/sync.throw", "internal/sync.runtime_nanotime", "internal/sync.runtime_SemacquireMutex", "sync/atomic.AddInt32", "(*internal/sync.Mutex).Unlock", "internal/race.ReleaseMerge", "(*internal/sync.Mutex).unlockSlow", "internal/sync.fatal", "internal/sync.runtime_Semrelease", "sync/atomic.StoreUint32"], unfollowed := true, recurses := true, named := ["moneyer/sha.start", "moneyer/sha.rounds"], plainKeys := false, apart := false, laid := [("moneyer/sha.start", laid_moneyer_sha_start), ("moneyer/sha.rounds", laid_moneyer_sha_rounds)], narrowed := true }
def ProofOnlyUptoSaid : Prop := proofOnlyUptoRow.holds Tryd.pinned (OpenSpec.upto proofOnlySpec)

/-- 'moneyerlaw05.ProofWrites', WHERE WHAT IT READS IS OF BULK AT MOST 1048576: true; the input reads as it did. -/
def proofWritesUptoRow : OpenClaim := { program := "ytngmpcmeebcdmaadoor", sum := "825ac5f34e1c3dcaa65b7166975433b78aa633d949f72a15ce8794da4a6ca3ce", func := "moneyer/moneyerlaw05.ProofWrites", spec := "proofWrites", inPlace := ["math/bits.Add64", "internal/bytealg.Compare", "sync/atomic.LoadUint32", "(*internal/sync.Mutex).Lock", "internal/race.Disable", "sync/atomic.CompareAndSwapInt32", "internal/race.Enable", "internal/race.Acquire", "(*internal/sync.Mutex).lockSlow", "internal/sync.runtime_canSpin", "internal/sync.runtime_doSpin", "internal/sync.throw", "internal/sync.runtime_nanotime", "internal/sync.runtime_SemacquireMutex", "sync/atomic.AddInt32", "(*internal/sync.Mutex).Unlock", "internal/race.ReleaseMerge", "(*internal/sync.Mutex).unlockSlow", "internal/sync.fatal", "internal/sync.runtime_Semrelease", "sync/atomic.StoreUint32"], unfollowed := true, recurses := true, named := ["moneyer/sha.start", "moneyer/sha.rounds"], plainKeys := false, apart := false, laid := [("moneyer/sha.start", laid_moneyer_sha_start), ("moneyer/sha.rounds", laid_moneyer_sha_rounds)], narrowed := true }
def ProofWritesUptoSaid : Prop := proofWritesUptoRow.holds Tryd.pinned (OpenSpec.upto proofWritesSpec)

/-- 'moneyerlaw05.ProofReads', WHERE WHAT IT READS IS OF BULK AT MOST 1048576: true; the input reads as it did. -/
def proofReadsUptoRow : OpenClaim := { program := "ytngmpcmeebcdmaadoor", sum := "825ac5f34e1c3dcaa65b7166975433b78aa633d949f72a15ce8794da4a6ca3ce", func := "moneyer/moneyerlaw05.ProofReads", spec := "proofReads", inPlace := ["math/bits.Add64", "internal/bytealg.Compare", "sync/atomic.LoadUint32", "(*internal/sync.Mutex).Lock", "internal/race.Disable", "sync/atomic.CompareAndSwapInt32", "internal/race.Enable", "internal/race.Acquire", "(*internal/sync.Mutex).lockSlow", "internal/sync.runtime_canSpin", "internal/sync.runtime_doSpin", "internal/sync.throw", "internal/sync.runtime_nanotime", "internal/sync.runtime_SemacquireMutex", "sync/atomic.AddInt32", "(*internal/sync.Mutex).Unlock", "internal/race.ReleaseMerge", "(*internal/sync.Mutex).unlockSlow", "internal/sync.fatal", "internal/sync.runtime_Semrelease", "sync/atomic.StoreUint32"], unfollowed := true, recurses := true, named := ["moneyer/sha.start", "moneyer/sha.rounds"], plainKeys := false, apart := false, laid := [("moneyer/sha.start", laid_moneyer_sha_start), ("moneyer/sha.rounds", laid_moneyer_sha_rounds)], narrowed := true }
def ProofReadsUptoSaid : Prop := proofReadsUptoRow.holds Tryd.pinned (OpenSpec.upto proofReadsSpec)

/-- 'moneyerlaw07.LeafWays', WHERE WHAT IT READS IS OF BULK AT MOST 1048576: true; the input reads as it did. -/
def leafWaysUptoRow : OpenClaim := { program := "ytngmpcmeebcdmaadoor", sum := "825ac5f34e1c3dcaa65b7166975433b78aa633d949f72a15ce8794da4a6ca3ce", func := "moneyer/moneyerlaw07.LeafWays", spec := "leafWays", inPlace := ["sync/atomic.LoadUint32", "(*internal/sync.Mutex).Lock", "internal/race.Disable", "sync/atomic.CompareAndSwapInt32", "internal/race.Enable", "internal/race.Acquire", "(*internal/sync.Mutex).lockSlow", "internal/sync.runtime_canSpin", "internal/sync.runtime_doSpin", "internal/sync.throw", "internal/sync.runtime_nanotime", "internal/sync.runtime_SemacquireMutex", "sync/atomic.AddInt32", "(*internal/sync.Mutex).Unlock", "internal/race.ReleaseMerge", "(*internal/sync.Mutex).unlockSlow", "internal/sync.fatal", "internal/sync.runtime_Semrelease", "sync/atomic.StoreUint32", "sync/atomic.AddInt64", "math/bits.Add64", "internal/bytealg.Compare"], unfollowed := true, recurses := true, named := ["moneyer/sha.start", "moneyer/sha.rounds"], plainKeys := false, apart := false, laid := [("moneyer/sha.start", laid_moneyer_sha_start), ("moneyer/sha.rounds", laid_moneyer_sha_rounds)], narrowed := true }
def LeafWaysUptoSaid : Prop := leafWaysUptoRow.holds Tryd.pinned (OpenSpec.upto leafWaysSpec)

/-- 'moneyerlaw07.LeafAlone', WHERE WHAT IT READS IS OF BULK AT MOST 1048576: true; the input reads as it did. -/
def leafAloneUptoRow : OpenClaim := { program := "ytngmpcmeebcdmaadoor", sum := "825ac5f34e1c3dcaa65b7166975433b78aa633d949f72a15ce8794da4a6ca3ce", func := "moneyer/moneyerlaw07.LeafAlone", spec := "leafAlone", inPlace := ["sync/atomic.LoadUint32", "(*internal/sync.Mutex).Lock", "internal/race.Disable", "sync/atomic.CompareAndSwapInt32", "internal/race.Enable", "internal/race.Acquire", "(*internal/sync.Mutex).lockSlow", "internal/sync.runtime_canSpin", "internal/sync.runtime_doSpin", "internal/sync.throw", "internal/sync.runtime_nanotime", "internal/sync.runtime_SemacquireMutex", "sync/atomic.AddInt32", "(*internal/sync.Mutex).Unlock", "internal/race.ReleaseMerge", "(*internal/sync.Mutex).unlockSlow", "internal/sync.fatal", "internal/sync.runtime_Semrelease", "sync/atomic.StoreUint32", "sync/atomic.AddInt64", "math/bits.Add64", "internal/bytealg.Compare"], unfollowed := true, recurses := true, named := ["moneyer/sha.start", "moneyer/sha.rounds"], plainKeys := false, apart := false, laid := [("moneyer/sha.start", laid_moneyer_sha_start), ("moneyer/sha.rounds", laid_moneyer_sha_rounds)], narrowed := true }
def LeafAloneUptoSaid : Prop := leafAloneUptoRow.holds Tryd.pinned (OpenSpec.upto leafAloneSpec)

/-- 'moneyerlaw07.LeafPlaces', WHERE WHAT IT READS IS OF BULK AT MOST 1048576: true; the input reads as it did. -/
def leafPlacesUptoRow : OpenClaim := { program := "ytngmpcmeebcdmaadoor", sum := "825ac5f34e1c3dcaa65b7166975433b78aa633d949f72a15ce8794da4a6ca3ce", func := "moneyer/moneyerlaw07.LeafPlaces", spec := "leafPlaces", inPlace := ["sync/atomic.LoadUint32", "(*internal/sync.Mutex).Lock", "internal/race.Disable", "sync/atomic.CompareAndSwapInt32", "internal/race.Enable", "internal/race.Acquire", "(*internal/sync.Mutex).lockSlow", "internal/sync.runtime_canSpin", "internal/sync.runtime_doSpin", "internal/sync.throw", "internal/sync.runtime_nanotime", "internal/sync.runtime_SemacquireMutex", "sync/atomic.AddInt32", "(*internal/sync.Mutex).Unlock", "internal/race.ReleaseMerge", "(*internal/sync.Mutex).unlockSlow", "internal/sync.fatal", "internal/sync.runtime_Semrelease", "sync/atomic.StoreUint32", "sync/atomic.AddInt64", "math/bits.Add64", "internal/bytealg.Compare"], unfollowed := true, recurses := true, named := ["moneyer/sha.start", "moneyer/sha.rounds"], plainKeys := false, apart := false, laid := [("moneyer/sha.start", laid_moneyer_sha_start), ("moneyer/sha.rounds", laid_moneyer_sha_rounds)], narrowed := true }
def LeafPlacesUptoSaid : Prop := leafPlacesUptoRow.holds Tryd.pinned (OpenSpec.upto leafPlacesSpec)

end Rows
end Go.Proofs.YtngmpcmeebcdmaaDoor
