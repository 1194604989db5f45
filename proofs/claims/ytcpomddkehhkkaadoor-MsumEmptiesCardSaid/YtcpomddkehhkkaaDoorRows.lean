/-
  NARROWER THAN 'FOR EVERY INPUT', by the rows' own cells (each row's printed sentence says how): MsumLeaves: laid · MsumEmpties: laid · MsumRoots: laid · MsumRuns: laid · MsumOrders: laid · MsumSwaps: laid · MsumClimbs: laid · MsumFull: laid.
  DERIVED. THE GIVEN ROWS OF THIS SEAT. 8 by the template 'for every input the law returns true; each argument reads behind the call as it read before'; 0 by the template 'total and deterministic' (their statements: YtcpomddkehhkkaaDoorTotals.lean).
  GIVEN WITH THE SEED: the statements are not yours to turn. If you find one false, say at which input.
  Laid BY PROGRAM, IN A SANDBOX (cutbox-rows.mjs): the forced cells as the released guide's own fill.sh prints them over the translation 85ed971a2c31e2d5… (all of the seat's roots in one cut). By AI agents, Wed Nov 11 2026. No macro, syntax, notation, axiom, sorry.
-/
import Derived.Test.YtcpomddkehhkkaaDoorChecked
import GoSem.Claim
import GoSem.ClaimJoined
import GoSem.ClaimMapViews
import Derived.JoinedTies
import Derived.KernelRfl
namespace Go.Proofs.YtcpomddkehhkkaaDoor
/- THE CELL 'sum', in the pinned program and in every row, IS THE sha256 OF THE DUMP (.gsa) THAT YtcpomddkehhkkaaDoorProg.lean LOADS. Nothing in Lean hashes anything: it is a label: what it is worth is what the hold of that sum in a sandbox is worth. -/
noncomputable def Tryd.pinned : Pinned := { name := "ytcpomddkehhkkaadoor", sum := "85ed971a2c31e2d5a0dd093ddd3fb9e3a61e8fac830026b5c812e5bad771a328", checked := Tryd.checked }
namespace Rows
def none {H : Type} : Left H := { results := [], args := [] }

/- WHAT THE LISTED PACKAGE-LEVEL VARIABLES READ AS WHEN THE CALL BEGINS. Each datum BY PROGRAM (the guide's laid-datum.mjs) off the statement by which the dump's own 'gosem.cut.vars' lays the variable. In a bare row this is a premise. The card (YtcpomddkehhkkaaDoorCards.lean) ties it to the program's text. -/
def laid_moneyer_sha_start {H : Type} : DataW H := .agg [.lit (.int .u32 1779033703), .lit (.int .u32 3144134277), .lit (.int .u32 1013904242), .lit (.int .u32 2773480762), .lit (.int .u32 1359893119), .lit (.int .u32 2600822924), .lit (.int .u32 528734635), .lit (.int .u32 1541459225)]
def laid_moneyer_sha_rounds {H : Type} : DataW H := .agg [.lit (.int .u32 1116352408), .lit (.int .u32 1899447441), .lit (.int .u32 3049323471), .lit (.int .u32 3921009573), .lit (.int .u32 961987163), .lit (.int .u32 1508970993), .lit (.int .u32 2453635748), .lit (.int .u32 2870763221), .lit (.int .u32 3624381080), .lit (.int .u32 310598401), .lit (.int .u32 607225278), .lit (.int .u32 1426881987), .lit (.int .u32 1925078388), .lit (.int .u32 2162078206), .lit (.int .u32 2614888103), .lit (.int .u32 3248222580), .lit (.int .u32 3835390401), .lit (.int .u32 4022224774), .lit (.int .u32 264347078), .lit (.int .u32 604807628), .lit (.int .u32 770255983), .lit (.int .u32 1249150122), .lit (.int .u32 1555081692), .lit (.int .u32 1996064986), .lit (.int .u32 2554220882), .lit (.int .u32 2821834349), .lit (.int .u32 2952996808), .lit (.int .u32 3210313671), .lit (.int .u32 3336571891), .lit (.int .u32 3584528711), .lit (.int .u32 113926993), .lit (.int .u32 338241895), .lit (.int .u32 666307205), .lit (.int .u32 773529912), .lit (.int .u32 1294757372), .lit (.int .u32 1396182291), .lit (.int .u32 1695183700), .lit (.int .u32 1986661051), .lit (.int .u32 2177026350), .lit (.int .u32 2456956037), .lit (.int .u32 2730485921), .lit (.int .u32 2820302411), .lit (.int .u32 3259730800), .lit (.int .u32 3345764771), .lit (.int .u32 3516065817), .lit (.int .u32 3600352804), .lit (.int .u32 4094571909), .lit (.int .u32 275423344), .lit (.int .u32 430227734), .lit (.int .u32 506948616), .lit (.int .u32 659060556), .lit (.int .u32 883997877), .lit (.int .u32 958139571), .lit (.int .u32 1322822218), .lit (.int .u32 1537002063), .lit (.int .u32 1747873779), .lit (.int .u32 1955562222), .lit (.int .u32 2024104815), .lit (.int .u32 2227730452), .lit (.int .u32 2361852424), .lit (.int .u32 2428436474), .lit (.int .u32 2756734187), .lit (.int .u32 3204031479), .lit (.int .u32 3329325298)]

/-- 'moneyerlaw04.MsumLeaves': WHATEVER THE INPUT: true; the input reads as it did. -/
def msumLeavesSpec : ChangeSpec := { name := "msumLeaves", fn := fun _ => fun
  | [d1, d2, d3] => { results := [.lit (.bool true)], args := [d1, d2, d3] }
  | _ => none }
def msumLeavesRow : OpenClaim := { program := "ytcpomddkehhkkaadoor", sum := "85ed971a2c31e2d5a0dd093ddd3fb9e3a61e8fac830026b5c812e5bad771a328", func := "moneyer/moneyerlaw04.MsumLeaves", spec := "msumLeaves", inPlace := ["math/bits.Add64"], named := ["moneyer/sha.start", "moneyer/sha.rounds"], plainKeys := false, apart := false, laid := [("moneyer/sha.start", laid_moneyer_sha_start), ("moneyer/sha.rounds", laid_moneyer_sha_rounds)] }
def MsumLeavesSaid : Prop := msumLeavesRow.holds Tryd.pinned (OpenSpec.ofChange msumLeavesSpec)

/-- ITS FALSE NEIGHBOUR: 'it returns false'. Refute it at one input. -/
def msumLeavesWrong : ChangeSpec := { name := "msumLeaves", fn := fun _ => fun
  | [d1, d2, d3] => { results := [.lit (.bool false)], args := [d1, d2, d3] }
  | _ => none }
def MsumLeavesWrongFalsely : Prop := msumLeavesRow.holds Tryd.pinned (OpenSpec.ofChange msumLeavesWrong)

/-- 'moneyerlaw04.MsumEmpties': WHATEVER THE INPUT: true; the input reads as it did. -/
def msumEmptiesSpec : ChangeSpec := { name := "msumEmpties", fn := fun _ => fun
  | [d] => { results := [.lit (.bool true)], args := [d] }
  | _ => none }
def msumEmptiesRow : OpenClaim := { program := "ytcpomddkehhkkaadoor", sum := "85ed971a2c31e2d5a0dd093ddd3fb9e3a61e8fac830026b5c812e5bad771a328", func := "moneyer/moneyerlaw04.MsumEmpties", spec := "msumEmpties", inPlace := ["math/bits.Add64", "internal/bytealg.Compare", "sync/atomic.LoadUint32", "(*internal/sync.Mutex).Lock", "internal/race.Disable", "sync/atomic.CompareAndSwapInt32", "internal/race.Enable", "internal/race.Acquire", "(*internal/sync.Mutex).lockSlow", "internal/sync.runtime_canSpin", "internal/sync.runtime_doSpin", "internal/sync.throw", "internal/sync.runtime_nanotime", "internal/sync.runtime_SemacquireMutex", "sync/atomic.AddInt32", "(*internal/sync.Mutex).Unlock", "internal/race.ReleaseMerge", "(*internal/sync.Mutex).unlockSlow", "internal/sync.fatal", "internal/sync.runtime_Semrelease", "sync/atomic.StoreUint32"], unfollowed := true, recurses := true, named := ["moneyer/sha.start", "moneyer/sha.rounds"], plainKeys := false, apart := false, laid := [("moneyer/sha.start", laid_moneyer_sha_start), ("moneyer/sha.rounds", laid_moneyer_sha_rounds)] }
def MsumEmptiesSaid : Prop := msumEmptiesRow.holds Tryd.pinned (OpenSpec.ofChange msumEmptiesSpec)

/-- ITS FALSE NEIGHBOUR: 'it returns false'. Refute it at one input. -/
def msumEmptiesWrong : ChangeSpec := { name := "msumEmpties", fn := fun _ => fun
  | [d] => { results := [.lit (.bool false)], args := [d] }
  | _ => none }
def MsumEmptiesWrongFalsely : Prop := msumEmptiesRow.holds Tryd.pinned (OpenSpec.ofChange msumEmptiesWrong)

/-- 'moneyerlaw04.MsumRoots': WHATEVER THE INPUT: true; the input reads as it did. -/
def msumRootsSpec : ChangeSpec := { name := "msumRoots", fn := fun _ => fun
  | [d1, d2, d3] => { results := [.lit (.bool true)], args := [d1, d2, d3] }
  | _ => none }
def msumRootsRow : OpenClaim := { program := "ytcpomddkehhkkaadoor", sum := "85ed971a2c31e2d5a0dd093ddd3fb9e3a61e8fac830026b5c812e5bad771a328", func := "moneyer/moneyerlaw04.MsumRoots", spec := "msumRoots", inPlace := ["math/bits.Add64", "internal/bytealg.Compare", "sync/atomic.LoadUint32", "(*internal/sync.Mutex).Lock", "internal/race.Disable", "sync/atomic.CompareAndSwapInt32", "internal/race.Enable", "internal/race.Acquire", "(*internal/sync.Mutex).lockSlow", "internal/sync.runtime_canSpin", "internal/sync.runtime_doSpin", "internal/sync.throw", "internal/sync.runtime_nanotime", "internal/sync.runtime_SemacquireMutex", "sync/atomic.AddInt32", "(*internal/sync.Mutex).Unlock", "internal/race.ReleaseMerge", "(*internal/sync.Mutex).unlockSlow", "internal/sync.fatal", "internal/sync.runtime_Semrelease", "sync/atomic.StoreUint32"], unfollowed := true, recurses := true, named := ["moneyer/sha.start", "moneyer/sha.rounds"], plainKeys := false, apart := false, laid := [("moneyer/sha.start", laid_moneyer_sha_start), ("moneyer/sha.rounds", laid_moneyer_sha_rounds)] }
def MsumRootsSaid : Prop := msumRootsRow.holds Tryd.pinned (OpenSpec.ofChange msumRootsSpec)

/-- ITS FALSE NEIGHBOUR: 'it returns false'. Refute it at one input. -/
def msumRootsWrong : ChangeSpec := { name := "msumRoots", fn := fun _ => fun
  | [d1, d2, d3] => { results := [.lit (.bool false)], args := [d1, d2, d3] }
  | _ => none }
def MsumRootsWrongFalsely : Prop := msumRootsRow.holds Tryd.pinned (OpenSpec.ofChange msumRootsWrong)

/-- 'moneyerlaw04.MsumRuns': WHATEVER THE INPUT: true; the input reads as it did. -/
def msumRunsSpec : ChangeSpec := { name := "msumRuns", fn := fun _ => fun
  | [d] => { results := [.lit (.bool true)], args := [d] }
  | _ => none }
def msumRunsRow : OpenClaim := { program := "ytcpomddkehhkkaadoor", sum := "85ed971a2c31e2d5a0dd093ddd3fb9e3a61e8fac830026b5c812e5bad771a328", func := "moneyer/moneyerlaw04.MsumRuns", spec := "msumRuns", inPlace := ["math/bits.Add64", "internal/bytealg.Compare", "sync/atomic.LoadUint32", "(*internal/sync.Mutex).Lock", "internal/race.Disable", "sync/atomic.CompareAndSwapInt32", "internal/race.Enable", "internal/race.Acquire", "(*internal/sync.Mutex).lockSlow", "internal/sync.runtime_canSpin", "internal/sync.runtime_doSpin", "internal/sync.throw", "internal/sync.runtime_nanotime", "internal/sync.runtime_SemacquireMutex", "sync/atomic.AddInt32", "(*internal/sync.Mutex).Unlock", "internal/race.ReleaseMerge", "(*internal/sync.Mutex).unlockSlow", "internal/sync.fatal", "internal/sync.runtime_Semrelease", "sync/atomic.StoreUint32"], unfollowed := true, recurses := true, named := ["moneyer/sha.start", "moneyer/sha.rounds"], plainKeys := false, apart := false, laid := [("moneyer/sha.start", laid_moneyer_sha_start), ("moneyer/sha.rounds", laid_moneyer_sha_rounds)] }
def MsumRunsSaid : Prop := msumRunsRow.holds Tryd.pinned (OpenSpec.ofChange msumRunsSpec)

/-- ITS FALSE NEIGHBOUR: 'it returns false'. Refute it at one input. -/
def msumRunsWrong : ChangeSpec := { name := "msumRuns", fn := fun _ => fun
  | [d] => { results := [.lit (.bool false)], args := [d] }
  | _ => none }
def MsumRunsWrongFalsely : Prop := msumRunsRow.holds Tryd.pinned (OpenSpec.ofChange msumRunsWrong)

/-- 'moneyerlaw04.MsumOrders': WHATEVER THE INPUT: true; the input reads as it did. -/
def msumOrdersSpec : ChangeSpec := { name := "msumOrders", fn := fun _ => fun
  | [d1, d2] => { results := [.lit (.bool true)], args := [d1, d2] }
  | _ => none }
def msumOrdersRow : OpenClaim := { program := "ytcpomddkehhkkaadoor", sum := "85ed971a2c31e2d5a0dd093ddd3fb9e3a61e8fac830026b5c812e5bad771a328", func := "moneyer/moneyerlaw04.MsumOrders", spec := "msumOrders", inPlace := ["math/bits.Add64", "internal/bytealg.Compare", "sync/atomic.LoadUint32", "(*internal/sync.Mutex).Lock", "internal/race.Disable", "sync/atomic.CompareAndSwapInt32", "internal/race.Enable", "internal/race.Acquire", "(*internal/sync.Mutex).lockSlow", "internal/sync.runtime_canSpin", "internal/sync.runtime_doSpin", "internal/sync.throw", "internal/sync.runtime_nanotime", "internal/sync.runtime_SemacquireMutex", "sync/atomic.AddInt32", "(*internal/sync.Mutex).Unlock", "internal/race.ReleaseMerge", "(*internal/sync.Mutex).unlockSlow", "internal/sync.fatal", "internal/sync.runtime_Semrelease", "sync/atomic.StoreUint32"], unfollowed := true, recurses := true, named := ["moneyer/sha.start", "moneyer/sha.rounds"], plainKeys := false, apart := false, laid := [("moneyer/sha.start", laid_moneyer_sha_start), ("moneyer/sha.rounds", laid_moneyer_sha_rounds)] }
def MsumOrdersSaid : Prop := msumOrdersRow.holds Tryd.pinned (OpenSpec.ofChange msumOrdersSpec)

/-- ITS FALSE NEIGHBOUR: 'it returns false'. Refute it at one input. -/
def msumOrdersWrong : ChangeSpec := { name := "msumOrders", fn := fun _ => fun
  | [d1, d2] => { results := [.lit (.bool false)], args := [d1, d2] }
  | _ => none }
def MsumOrdersWrongFalsely : Prop := msumOrdersRow.holds Tryd.pinned (OpenSpec.ofChange msumOrdersWrong)

/-- 'moneyerlaw04.MsumSwaps': WHATEVER THE INPUT: true; the input reads as it did. -/
def msumSwapsSpec : ChangeSpec := { name := "msumSwaps", fn := fun _ => fun
  | [d1, d2, d3] => { results := [.lit (.bool true)], args := [d1, d2, d3] }
  | _ => none }
def msumSwapsRow : OpenClaim := { program := "ytcpomddkehhkkaadoor", sum := "85ed971a2c31e2d5a0dd093ddd3fb9e3a61e8fac830026b5c812e5bad771a328", func := "moneyer/moneyerlaw04.MsumSwaps", spec := "msumSwaps", inPlace := ["math/bits.Add64", "internal/bytealg.Compare", "sync/atomic.LoadUint32", "(*internal/sync.Mutex).Lock", "internal/race.Disable", "sync/atomic.CompareAndSwapInt32", "internal/race.Enable", "internal/race.Acquire", "(*internal/sync.Mutex).lockSlow", "internal/sync.runtime_canSpin", "internal/sync.runtime_doSpin", "internal/sync.throw", "internal/sync.runtime_nanotime", "internal/sync.runtime_SemacquireMutex", "sync/atomic.AddInt32", "(*internal/sync.Mutex).Unlock", "internal/race.ReleaseMerge", "(*internal/sync.Mutex).unlockSlow", "internal/sync.fatal", "internal/sync.runtime_Semrelease", "sync/atomic.StoreUint32"], unfollowed := true, recurses := true, named := ["moneyer/sha.start", "moneyer/sha.rounds"], plainKeys := false, apart := false, laid := [("moneyer/sha.start", laid_moneyer_sha_start), ("moneyer/sha.rounds", laid_moneyer_sha_rounds)] }
def MsumSwapsSaid : Prop := msumSwapsRow.holds Tryd.pinned (OpenSpec.ofChange msumSwapsSpec)

/-- ITS FALSE NEIGHBOUR: 'it returns false'. Refute it at one input. -/
def msumSwapsWrong : ChangeSpec := { name := "msumSwaps", fn := fun _ => fun
  | [d1, d2, d3] => { results := [.lit (.bool false)], args := [d1, d2, d3] }
  | _ => none }
def MsumSwapsWrongFalsely : Prop := msumSwapsRow.holds Tryd.pinned (OpenSpec.ofChange msumSwapsWrong)

/-- 'moneyerlaw04.MsumClimbs': WHATEVER THE INPUT: true; the input reads as it did. -/
def msumClimbsSpec : ChangeSpec := { name := "msumClimbs", fn := fun _ => fun
  | [d1, d2] => { results := [.lit (.bool true)], args := [d1, d2] }
  | _ => none }
def msumClimbsRow : OpenClaim := { program := "ytcpomddkehhkkaadoor", sum := "85ed971a2c31e2d5a0dd093ddd3fb9e3a61e8fac830026b5c812e5bad771a328", func := "moneyer/moneyerlaw04.MsumClimbs", spec := "msumClimbs", inPlace := ["math/bits.Add64", "internal/bytealg.Compare", "sync/atomic.LoadUint32", "(*internal/sync.Mutex).Lock", "internal/race.Disable", "sync/atomic.CompareAndSwapInt32", "internal/race.Enable", "internal/race.Acquire", "(*internal/sync.Mutex).lockSlow", "internal/sync.runtime_canSpin", "internal/sync.runtime_doSpin", "internal/sync.throw", "internal/sync.runtime_nanotime", "internal/sync.runtime_SemacquireMutex", "sync/atomic.AddInt32", "(*internal/sync.Mutex).Unlock", "internal/race.ReleaseMerge", "(*internal/sync.Mutex).unlockSlow", "internal/sync.fatal", "internal/sync.runtime_Semrelease", "sync/atomic.StoreUint32"], unfollowed := true, recurses := true, named := ["moneyer/sha.start", "moneyer/sha.rounds"], plainKeys := false, apart := false, laid := [("moneyer/sha.start", laid_moneyer_sha_start), ("moneyer/sha.rounds", laid_moneyer_sha_rounds)] }
def MsumClimbsSaid : Prop := msumClimbsRow.holds Tryd.pinned (OpenSpec.ofChange msumClimbsSpec)

/-- ITS FALSE NEIGHBOUR: 'it returns false'. Refute it at one input. -/
def msumClimbsWrong : ChangeSpec := { name := "msumClimbs", fn := fun _ => fun
  | [d1, d2] => { results := [.lit (.bool false)], args := [d1, d2] }
  | _ => none }
def MsumClimbsWrongFalsely : Prop := msumClimbsRow.holds Tryd.pinned (OpenSpec.ofChange msumClimbsWrong)

/-- 'moneyerlaw04.MsumFull': WHATEVER THE INPUT: true; the input reads as it did. -/
def msumFullSpec : ChangeSpec := { name := "msumFull", fn := fun _ => fun
  | [d] => { results := [.lit (.bool true)], args := [d] }
  | _ => none }
def msumFullRow : OpenClaim := { program := "ytcpomddkehhkkaadoor", sum := "85ed971a2c31e2d5a0dd093ddd3fb9e3a61e8fac830026b5c812e5bad771a328", func := "moneyer/moneyerlaw04.MsumFull", spec := "msumFull", inPlace := ["math/bits.Add64", "internal/bytealg.Compare", "sync/atomic.LoadUint32", "(*internal/sync.Mutex).Lock", "internal/race.Disable", "sync/atomic.CompareAndSwapInt32", "internal/race.Enable", "internal/race.Acquire", "(*internal/sync.Mutex).lockSlow", "internal/sync.runtime_canSpin", "internal/sync.runtime_doSpin", "internal/sync.throw", "internal/sync.runtime_nanotime", "internal/sync.runtime_SemacquireMutex", "sync/atomic.AddInt32", "(*internal/sync.Mutex).Unlock", "internal/race.ReleaseMerge", "(*internal/sync.Mutex).unlockSlow", "internal/sync.fatal", "internal/sync.runtime_Semrelease", "sync/atomic.StoreUint32"], unfollowed := true, recurses := true, named := ["moneyer/sha.start", "moneyer/sha.rounds"], plainKeys := false, apart := false, laid := [("moneyer/sha.start", laid_moneyer_sha_start), ("moneyer/sha.rounds", laid_moneyer_sha_rounds)] }
def MsumFullSaid : Prop := msumFullRow.holds Tryd.pinned (OpenSpec.ofChange msumFullSpec)

/-- ITS FALSE NEIGHBOUR: 'it returns false'. Refute it at one input. -/
def msumFullWrong : ChangeSpec := { name := "msumFull", fn := fun _ => fun
  | [d] => { results := [.lit (.bool false)], args := [d] }
  | _ => none }
def MsumFullWrongFalsely : Prop := msumFullRow.holds Tryd.pinned (OpenSpec.ofChange msumFullWrong)

/- THE SECOND FORM. 'bulk': how many values and letters a reading holds, each counted each time it is reached (what is shared counts as often as it is met; a slice's spare places count too). A statement '..UptoSaid' is the law's where the arguments, and the package variables that the reading takes, are together of bulk at most 1048576: NARROWER than '..Said'. Prove '..Said' where nothing that the law and all that it calls make is longer than what came in: it says more and counts as full. Else prove '..UptoSaid'. A law counts once. -/
mutual
def uptoBulk {H : Type} : DataW H → Nat
  | .lit (.string bytes) => bytes.length + 1
  | .lit _ => 1
  | .nil => 1
  | .ptr d => uptoBulk d + 1
  | .slice elems spare => uptoBulkAll elems + uptoBulkAll spare + 1
  | .agg parts => uptoBulkAll parts + 1
  | .iface _ d => uptoBulk d + 1
  | .map entries => uptoBulkEntries entries + 1
  | .held _ => 1
def uptoBulkAll {H : Type} : List (DataW H) → Nat
  | [] => 0
  | d :: r => uptoBulk d + uptoBulkAll r
def uptoBulkEntries {H : Type} : List (Lit × DataW H) → Nat
  | [] => 0
  | x :: r => uptoBulkEntry x + uptoBulkEntries r
def uptoBulkEntry {H : Type} : Lit × DataW H → Nat
  | (.string bytes, d) => bytes.length + uptoBulk d + 1
  | (_, d) => uptoBulk d + 1
 end
def uptoSmall : (H : Type) → List (DataW H) → Bool := fun _ ds => decide (uptoBulkAll ds ≤ 1048576)
def OpenSpec.upto (s : _root_.Go.ChangeSpec) : _root_.Go.OpenSpec := { _root_.Go.OpenSpec.ofChange s with cond := some uptoSmall }

/-- 'moneyerlaw04.MsumLeaves', WHERE WHAT IT READS IS OF BULK AT MOST 1048576: true; the input reads as it did. -/
def msumLeavesUptoRow : OpenClaim := { program := "ytcpomddkehhkkaadoor", sum := "85ed971a2c31e2d5a0dd093ddd3fb9e3a61e8fac830026b5c812e5bad771a328", func := "moneyer/moneyerlaw04.MsumLeaves", spec := "msumLeaves", inPlace := ["math/bits.Add64"], named := ["moneyer/sha.start", "moneyer/sha.rounds"], plainKeys := false, apart := false, laid := [("moneyer/sha.start", laid_moneyer_sha_start), ("moneyer/sha.rounds", laid_moneyer_sha_rounds)], narrowed := true }
def MsumLeavesUptoSaid : Prop := msumLeavesUptoRow.holds Tryd.pinned (OpenSpec.upto msumLeavesSpec)

/-- 'moneyerlaw04.MsumEmpties', WHERE WHAT IT READS IS OF BULK AT MOST 1048576: true; the input reads as it did. -/
def msumEmptiesUptoRow : OpenClaim := { program := "ytcpomddkehhkkaadoor", sum := "85ed971a2c31e2d5a0dd093ddd3fb9e3a61e8fac830026b5c812e5bad771a328", func := "moneyer/moneyerlaw04.MsumEmpties", spec := "msumEmpties", inPlace := ["math/bits.Add64", "internal/bytealg.Compare", "sync/atomic.LoadUint32", "(*internal/sync.Mutex).Lock", "internal/race.Disable", "sync/atomic.CompareAndSwapInt32", "internal/race.Enable", "internal/race.Acquire", "(*internal/sync.Mutex).lockSlow", "internal/sync.runtime_canSpin", "internal/sync.runtime_doSpin", "internal/sync.throw", "internal/sync.runtime_nanotime", "internal/sync.runtime_SemacquireMutex", "sync/atomic.AddInt32", "(*internal/sync.Mutex).Unlock", "internal/race.ReleaseMerge", "(*internal/sync.Mutex).unlockSlow", "internal/sync.fatal", "internal/sync.runtime_Semrelease", "sync/atomic.StoreUint32"], unfollowed := true, recurses := true, named := ["moneyer/sha.start", "moneyer/sha.rounds"], plainKeys := false, apart := false, laid := [("moneyer/sha.start", laid_moneyer_sha_start), ("moneyer/sha.rounds", laid_moneyer_sha_rounds)], narrowed := true }
def MsumEmptiesUptoSaid : Prop := msumEmptiesUptoRow.holds Tryd.pinned (OpenSpec.upto msumEmptiesSpec)

/-- 'moneyerlaw04.MsumRoots', WHERE WHAT IT READS IS OF BULK AT MOST 1048576: true; the input reads as it did. -/
def msumRootsUptoRow : OpenClaim := { program := "ytcpomddkehhkkaadoor", sum := "85ed971a2c31e2d5a0dd093ddd3fb9e3a61e8fac830026b5c812e5bad771a328", func := "moneyer/moneyerlaw04.MsumRoots", spec := "msumRoots", inPlace := ["math/bits.Add64", "internal/bytealg.Compare", "sync/atomic.LoadUint32", "(*internal/sync.Mutex).Lock", "internal/race.Disable", "sync/atomic.CompareAndSwapInt32", "internal/race.Enable", "internal/race.Acquire", "(*internal/sync.Mutex).lockSlow", "internal/sync.runtime_canSpin", "internal/sync.runtime_doSpin", "internal/sync.throw", "internal/sync.runtime_nanotime", "internal/sync.runtime_SemacquireMutex", "sync/atomic.AddInt32", "(*internal/sync.Mutex).Unlock", "internal/race.ReleaseMerge", "(*internal/sync.Mutex).unlockSlow", "internal/sync.fatal", "internal/sync.runtime_Semrelease", "sync/atomic.StoreUint32"], unfollowed := true, recurses := true, named := ["moneyer/sha.start", "moneyer/sha.rounds"], plainKeys := false, apart := false, laid := [("moneyer/sha.start", laid_moneyer_sha_start), ("moneyer/sha.rounds", laid_moneyer_sha_rounds)], narrowed := true }
def MsumRootsUptoSaid : Prop := msumRootsUptoRow.holds Tryd.pinned (OpenSpec.upto msumRootsSpec)

/-- 'moneyerlaw04.MsumRuns', WHERE WHAT IT READS IS OF BULK AT MOST 1048576: true; the input reads as it did. -/
def msumRunsUptoRow : OpenClaim := { program := "ytcpomddkehhkkaadoor", sum := "85ed971a2c31e2d5a0dd093ddd3fb9e3a61e8fac830026b5c812e5bad771a328", func := "moneyer/moneyerlaw04.MsumRuns", spec := "msumRuns", inPlace := ["math/bits.Add64", "internal/bytealg.Compare", "sync/atomic.LoadUint32", "(*internal/sync.Mutex).Lock", "internal/race.Disable", "sync/atomic.CompareAndSwapInt32", "internal/race.Enable", "internal/race.Acquire", "(*internal/sync.Mutex).lockSlow", "internal/sync.runtime_canSpin", "internal/sync.runtime_doSpin", "internal/sync.throw", "internal/sync.runtime_nanotime", "internal/sync.runtime_SemacquireMutex", "sync/atomic.AddInt32", "(*internal/sync.Mutex).Unlock", "internal/race.ReleaseMerge", "(*internal/sync.Mutex).unlockSlow", "internal/sync.fatal", "internal/sync.runtime_Semrelease", "sync/atomic.StoreUint32"], unfollowed := true, recurses := true, named := ["moneyer/sha.start", "moneyer/sha.rounds"], plainKeys := false, apart := false, laid := [("moneyer/sha.start", laid_moneyer_sha_start), ("moneyer/sha.rounds", laid_moneyer_sha_rounds)], narrowed := true }
def MsumRunsUptoSaid : Prop := msumRunsUptoRow.holds Tryd.pinned (OpenSpec.upto msumRunsSpec)

/-- 'moneyerlaw04.MsumOrders', WHERE WHAT IT READS IS OF BULK AT MOST 1048576: true; the input reads as it did. -/
def msumOrdersUptoRow : OpenClaim := { program := "ytcpomddkehhkkaadoor", sum := "85ed971a2c31e2d5a0dd093ddd3fb9e3a61e8fac830026b5c812e5bad771a328", func := "moneyer/moneyerlaw04.MsumOrders", spec := "msumOrders", inPlace := ["math/bits.Add64", "internal/bytealg.Compare", "sync/atomic.LoadUint32", "(*internal/sync.Mutex).Lock", "internal/race.Disable", "sync/atomic.CompareAndSwapInt32", "internal/race.Enable", "internal/race.Acquire", "(*internal/sync.Mutex).lockSlow", "internal/sync.runtime_canSpin", "internal/sync.runtime_doSpin", "internal/sync.throw", "internal/sync.runtime_nanotime", "internal/sync.runtime_SemacquireMutex", "sync/atomic.AddInt32", "(*internal/sync.Mutex).Unlock", "internal/race.ReleaseMerge", "(*internal/sync.Mutex).unlockSlow", "internal/sync.fatal", "internal/sync.runtime_Semrelease", "sync/atomic.StoreUint32"], unfollowed := true, recurses := true, named := ["moneyer/sha.start", "moneyer/sha.rounds"], plainKeys := false, apart := false, laid := [("moneyer/sha.start", laid_moneyer_sha_start), ("moneyer/sha.rounds", laid_moneyer_sha_rounds)], narrowed := true }
def MsumOrdersUptoSaid : Prop := msumOrdersUptoRow.holds Tryd.pinned (OpenSpec.upto msumOrdersSpec)

/-- 'moneyerlaw04.MsumSwaps', WHERE WHAT IT READS IS OF BULK AT MOST 1048576: true; the input reads as it did. -/
def msumSwapsUptoRow : OpenClaim := { program := "ytcpomddkehhkkaadoor", sum := "85ed971a2c31e2d5a0dd093ddd3fb9e3a61e8fac830026b5c812e5bad771a328", func := "moneyer/moneyerlaw04.MsumSwaps", spec := "msumSwaps", inPlace := ["math/bits.Add64", "internal/bytealg.Compare", "sync/atomic.LoadUint32", "(*internal/sync.Mutex).Lock", "internal/race.Disable", "sync/atomic.CompareAndSwapInt32", "internal/race.Enable", "internal/race.Acquire", "(*internal/sync.Mutex).lockSlow", "internal/sync.runtime_canSpin", "internal/sync.runtime_doSpin", "internal/sync.throw", "internal/sync.runtime_nanotime", "internal/sync.runtime_SemacquireMutex", "sync/atomic.AddInt32", "(*internal/sync.Mutex).Unlock", "internal/race.ReleaseMerge", "(*internal/sync.Mutex).unlockSlow", "internal/sync.fatal", "internal/sync.runtime_Semrelease", "sync/atomic.StoreUint32"], unfollowed := true, recurses := true, named := ["moneyer/sha.start", "moneyer/sha.rounds"], plainKeys := false, apart := false, laid := [("moneyer/sha.start", laid_moneyer_sha_start), ("moneyer/sha.rounds", laid_moneyer_sha_rounds)], narrowed := true }
def MsumSwapsUptoSaid : Prop := msumSwapsUptoRow.holds Tryd.pinned (OpenSpec.upto msumSwapsSpec)

/-- 'moneyerlaw04.MsumClimbs', WHERE WHAT IT READS IS OF BULK AT MOST 1048576: true; the input reads as it did. -/
def msumClimbsUptoRow : OpenClaim := { program := "ytcpomddkehhkkaadoor", sum := "85ed971a2c31e2d5a0dd093ddd3fb9e3a61e8fac830026b5c812e5bad771a328", func := "moneyer/moneyerlaw04.MsumClimbs", spec := "msumClimbs", inPlace := ["math/bits.Add64", "internal/bytealg.Compare", "sync/atomic.LoadUint32", "(*internal/sync.Mutex).Lock", "internal/race.Disable", "sync/atomic.CompareAndSwapInt32", "internal/race.Enable", "internal/race.Acquire", "(*internal/sync.Mutex).lockSlow", "internal/sync.runtime_canSpin", "internal/sync.runtime_doSpin", "internal/sync.throw", "internal/sync.runtime_nanotime", "internal/sync.runtime_SemacquireMutex", "sync/atomic.AddInt32", "(*internal/sync.Mutex).Unlock", "internal/race.ReleaseMerge", "(*internal/sync.Mutex).unlockSlow", "internal/sync.fatal", "internal/sync.runtime_Semrelease", "sync/atomic.StoreUint32"], unfollowed := true, recurses := true, named := ["moneyer/sha.start", "moneyer/sha.rounds"], plainKeys := false, apart := false, laid := [("moneyer/sha.start", laid_moneyer_sha_start), ("moneyer/sha.rounds", laid_moneyer_sha_rounds)], narrowed := true }
def MsumClimbsUptoSaid : Prop := msumClimbsUptoRow.holds Tryd.pinned (OpenSpec.upto msumClimbsSpec)

/-- 'moneyerlaw04.MsumFull', WHERE WHAT IT READS IS OF BULK AT MOST 1048576: true; the input reads as it did. -/
def msumFullUptoRow : OpenClaim := { program := "ytcpomddkehhkkaadoor", sum := "85ed971a2c31e2d5a0dd093ddd3fb9e3a61e8fac830026b5c812e5bad771a328", func := "moneyer/moneyerlaw04.MsumFull", spec := "msumFull", inPlace := ["math/bits.Add64", "internal/bytealg.Compare", "sync/atomic.LoadUint32", "(*internal/sync.Mutex).Lock", "internal/race.Disable", "sync/atomic.CompareAndSwapInt32", "internal/race.Enable", "internal/race.Acquire", "(*internal/sync.Mutex).lockSlow", "internal/sync.runtime_canSpin", "internal/sync.runtime_doSpin", "internal/sync.throw", "internal/sync.runtime_nanotime", "internal/sync.runtime_SemacquireMutex", "sync/atomic.AddInt32", "(*internal/sync.Mutex).Unlock", "internal/race.ReleaseMerge", "(*internal/sync.Mutex).unlockSlow", "internal/sync.fatal", "internal/sync.runtime_Semrelease", "sync/atomic.StoreUint32"], unfollowed := true, recurses := true, named := ["moneyer/sha.start", "moneyer/sha.rounds"], plainKeys := false, apart := false, laid := [("moneyer/sha.start", laid_moneyer_sha_start), ("moneyer/sha.rounds", laid_moneyer_sha_rounds)], narrowed := true }
def MsumFullUptoSaid : Prop := msumFullUptoRow.holds Tryd.pinned (OpenSpec.upto msumFullSpec)

end Rows
end Go.Proofs.YtcpomddkehhkkaaDoor
