/-
  No cell of these rows narrows 'for every input' (looked for: loops, veiled, ifaces, maps, wideKeys, modest, calm, conditions, laid).
  DERIVED. THE GIVEN ROWS OF THIS SEAT. 5 by the template 'for every input the law returns true; each argument reads behind the call as it read before'; 0 by the template 'total and deterministic' (their statements: YtiedaccgagnofaaGreatTotals.lean).
  GIVEN WITH THE SEED: the statements are not yours to turn. If you find one false, say at which input.
  Laid BY PROGRAM, IN A SANDBOX (cutbox-rows.mjs): the forced cells as the released guide's own fill.sh prints them over the translation 9fc7eeac656c8c5c… (all of the seat's roots in one cut). By AI agents, Wed Nov 11 2026. No macro, syntax, notation, axiom, sorry.
-/
import Derived.Test.YtiedaccgagnofaaGreatChecked
import GoSem.Claim
import GoSem.ClaimJoined
import GoSem.ClaimMapViews
import Derived.JoinedTies
import Derived.KernelRfl
namespace Go.Proofs.YtiedaccgagnofaaGreat
/- THE CELL 'sum', in the pinned program and in every row, IS THE sha256 OF THE DUMP (.gsa) THAT YtiedaccgagnofaaGreatProg.lean LOADS. Nothing in Lean hashes anything: it is a label: what it is worth is what the hold of that sum in a sandbox is worth. -/
noncomputable def Tryz.pinned : Pinned := { name := "ytiedaccgagnofaagreat", sum := "9fc7eeac656c8c5c7a0a851ea4221f78c483865c1d14da1d857fd1e13907ee0a", checked := Tryz.checked }
namespace Rows
def none {H : Type} : Left H := { results := [], args := [] }

/-- 'flumelaw22.WalCursors': WHATEVER THE INPUT: true; the input reads as it did. -/
def walCursorsSpec : ChangeSpec := { name := "walCursors", fn := fun _ => fun
  | [d1, d2, d3] => { results := [.lit (.bool true)], args := [d1, d2, d3] }
  | _ => none }
def walCursorsRow : OpenClaim := { program := "ytiedaccgagnofaagreat", sum := "9fc7eeac656c8c5c7a0a851ea4221f78c483865c1d14da1d857fd1e13907ee0a", func := "flume/flumelaw22.WalCursors", spec := "walCursors", inPlace := ["math.Float64bits", "math.Float64frombits", "(*internal/sync.Mutex).Lock", "internal/race.Disable", "sync/atomic.CompareAndSwapInt32", "internal/race.Enable", "internal/race.Acquire", "(*internal/sync.Mutex).lockSlow", "internal/sync.runtime_canSpin", "internal/sync.runtime_doSpin", "internal/sync.throw", "internal/sync.runtime_nanotime", "internal/sync.runtime_SemacquireMutex", "sync/atomic.AddInt32", "(*internal/sync.Mutex).Unlock", "internal/race.ReleaseMerge", "(*internal/sync.Mutex).unlockSlow", "internal/sync.fatal", "internal/sync.runtime_Semrelease", "math.archCeil", "math.archFloor", "math.archTrunc"], unfollowed := true, recurses := true, apart := false }
def WalCursorsSaid : Prop := walCursorsRow.holds Tryz.pinned (OpenSpec.ofChange walCursorsSpec)

/-- ITS FALSE NEIGHBOUR: 'it returns false'. Refute it at one input. -/
def walCursorsWrong : ChangeSpec := { name := "walCursors", fn := fun _ => fun
  | [d1, d2, d3] => { results := [.lit (.bool false)], args := [d1, d2, d3] }
  | _ => none }
def WalCursorsWrongFalsely : Prop := walCursorsRow.holds Tryz.pinned (OpenSpec.ofChange walCursorsWrong)

/-- 'flumelaw22.WalNone': WHATEVER THE INPUT: true; the input reads as it did. -/
def walNoneSpec : ChangeSpec := { name := "walNone", fn := fun _ => fun
  | [d1, d2] => { results := [.lit (.bool true)], args := [d1, d2] }
  | _ => none }
def walNoneRow : OpenClaim := { program := "ytiedaccgagnofaagreat", sum := "9fc7eeac656c8c5c7a0a851ea4221f78c483865c1d14da1d857fd1e13907ee0a", func := "flume/flumelaw22.WalNone", spec := "walNone", inPlace := ["math.Float64bits", "math.Float64frombits", "(*internal/sync.Mutex).Lock", "internal/race.Disable", "sync/atomic.CompareAndSwapInt32", "internal/race.Enable", "internal/race.Acquire", "(*internal/sync.Mutex).lockSlow", "internal/sync.runtime_canSpin", "internal/sync.runtime_doSpin", "internal/sync.throw", "internal/sync.runtime_nanotime", "internal/sync.runtime_SemacquireMutex", "sync/atomic.AddInt32", "(*internal/sync.Mutex).Unlock", "internal/race.ReleaseMerge", "(*internal/sync.Mutex).unlockSlow", "internal/sync.fatal", "internal/sync.runtime_Semrelease", "math.archCeil", "math.archFloor", "math.archTrunc"], unfollowed := true, recurses := true, apart := false }
def WalNoneSaid : Prop := walNoneRow.holds Tryz.pinned (OpenSpec.ofChange walNoneSpec)

/-- ITS FALSE NEIGHBOUR: 'it returns false'. Refute it at one input. -/
def walNoneWrong : ChangeSpec := { name := "walNone", fn := fun _ => fun
  | [d1, d2] => { results := [.lit (.bool false)], args := [d1, d2] }
  | _ => none }
def WalNoneWrongFalsely : Prop := walNoneRow.holds Tryz.pinned (OpenSpec.ofChange walNoneWrong)

/-- 'flumelaw22.WalTail': WHATEVER THE INPUT: true; the input reads as it did. -/
def walTailSpec : ChangeSpec := { name := "walTail", fn := fun _ => fun
  | [d1, d2, d3, d4] => { results := [.lit (.bool true)], args := [d1, d2, d3, d4] }
  | _ => none }
def walTailRow : OpenClaim := { program := "ytiedaccgagnofaagreat", sum := "9fc7eeac656c8c5c7a0a851ea4221f78c483865c1d14da1d857fd1e13907ee0a", func := "flume/flumelaw22.WalTail", spec := "walTail", inPlace := ["math.Float64bits", "math.Float64frombits", "(*internal/sync.Mutex).Lock", "internal/race.Disable", "sync/atomic.CompareAndSwapInt32", "internal/race.Enable", "internal/race.Acquire", "(*internal/sync.Mutex).lockSlow", "internal/sync.runtime_canSpin", "internal/sync.runtime_doSpin", "internal/sync.throw", "internal/sync.runtime_nanotime", "internal/sync.runtime_SemacquireMutex", "sync/atomic.AddInt32", "(*internal/sync.Mutex).Unlock", "internal/race.ReleaseMerge", "(*internal/sync.Mutex).unlockSlow", "internal/sync.fatal", "internal/sync.runtime_Semrelease", "math.archCeil", "math.archFloor", "math.archTrunc"], unfollowed := true, recurses := true, apart := false }
def WalTailSaid : Prop := walTailRow.holds Tryz.pinned (OpenSpec.ofChange walTailSpec)

/-- ITS FALSE NEIGHBOUR: 'it returns false'. Refute it at one input. -/
def walTailWrong : ChangeSpec := { name := "walTail", fn := fun _ => fun
  | [d1, d2, d3, d4] => { results := [.lit (.bool false)], args := [d1, d2, d3, d4] }
  | _ => none }
def WalTailWrongFalsely : Prop := walTailRow.holds Tryz.pinned (OpenSpec.ofChange walTailWrong)

/-- 'flumelaw22.WalCloses': WHATEVER THE INPUT: true; the input reads as it did. -/
def walClosesSpec : ChangeSpec := { name := "walCloses", fn := fun _ => fun
  | [d1, d2, d3, d4] => { results := [.lit (.bool true)], args := [d1, d2, d3, d4] }
  | _ => none }
def walClosesRow : OpenClaim := { program := "ytiedaccgagnofaagreat", sum := "9fc7eeac656c8c5c7a0a851ea4221f78c483865c1d14da1d857fd1e13907ee0a", func := "flume/flumelaw22.WalCloses", spec := "walCloses", inPlace := ["math.Float64bits", "math.Float64frombits", "(*internal/sync.Mutex).Lock", "internal/race.Disable", "sync/atomic.CompareAndSwapInt32", "internal/race.Enable", "internal/race.Acquire", "(*internal/sync.Mutex).lockSlow", "internal/sync.runtime_canSpin", "internal/sync.runtime_doSpin", "internal/sync.throw", "internal/sync.runtime_nanotime", "internal/sync.runtime_SemacquireMutex", "sync/atomic.AddInt32", "(*internal/sync.Mutex).Unlock", "internal/race.ReleaseMerge", "(*internal/sync.Mutex).unlockSlow", "internal/sync.fatal", "internal/sync.runtime_Semrelease", "math.archCeil", "math.archFloor", "math.archTrunc"], unfollowed := true, recurses := true, apart := false }
def WalClosesSaid : Prop := walClosesRow.holds Tryz.pinned (OpenSpec.ofChange walClosesSpec)

/-- ITS FALSE NEIGHBOUR: 'it returns false'. Refute it at one input. -/
def walClosesWrong : ChangeSpec := { name := "walCloses", fn := fun _ => fun
  | [d1, d2, d3, d4] => { results := [.lit (.bool false)], args := [d1, d2, d3, d4] }
  | _ => none }
def WalClosesWrongFalsely : Prop := walClosesRow.holds Tryz.pinned (OpenSpec.ofChange walClosesWrong)

/-- 'flumelaw23.ModelWal': WHATEVER THE INPUT: true; the input reads as it did. -/
def modelWalSpec : ChangeSpec := { name := "modelWal", fn := fun _ => fun
  | [d1, d2, d3] => { results := [.lit (.bool true)], args := [d1, d2, d3] }
  | _ => none }
def modelWalRow : OpenClaim := { program := "ytiedaccgagnofaagreat", sum := "9fc7eeac656c8c5c7a0a851ea4221f78c483865c1d14da1d857fd1e13907ee0a", func := "flume/flumelaw23.ModelWal", spec := "modelWal", inPlace := ["math.Float64bits", "math.Float64frombits", "(*internal/sync.Mutex).Lock", "internal/race.Disable", "sync/atomic.CompareAndSwapInt32", "internal/race.Enable", "internal/race.Acquire", "(*internal/sync.Mutex).lockSlow", "internal/sync.runtime_canSpin", "internal/sync.runtime_doSpin", "internal/sync.throw", "internal/sync.runtime_nanotime", "internal/sync.runtime_SemacquireMutex", "sync/atomic.AddInt32", "(*internal/sync.Mutex).Unlock", "internal/race.ReleaseMerge", "(*internal/sync.Mutex).unlockSlow", "internal/sync.fatal", "internal/sync.runtime_Semrelease", "math.archCeil", "math.archFloor", "math.archTrunc"], unfollowed := true, recurses := true, apart := false }
def ModelWalSaid : Prop := modelWalRow.holds Tryz.pinned (OpenSpec.ofChange modelWalSpec)

/-- ITS FALSE NEIGHBOUR: 'it returns false'. Refute it at one input. -/
def modelWalWrong : ChangeSpec := { name := "modelWal", fn := fun _ => fun
  | [d1, d2, d3] => { results := [.lit (.bool false)], args := [d1, d2, d3] }
  | _ => none }
def ModelWalWrongFalsely : Prop := modelWalRow.holds Tryz.pinned (OpenSpec.ofChange modelWalWrong)

/- THE SECOND FORM. 'bulk': how many values and letters a reading holds, each counted each time it is reached (what is shared counts as often as it is met; a slice's spare places count too). A statement '..UptoSaid' is the law's where the arguments, and the package variables that the reading takes, are together of bulk at most 1048576: NARROWER than '..Said'. Prove '..Said' where nothing that the law and all that it calls make is longer than what came in: it says more and counts as full. Else prove '..UptoSaid'. A law counts once. -/
mutual
def uptoBulk {H : Type} : DataW H → Nat
  | .lit (.string bytes) => bytes.length + 1
  | .lit _ => 1
  | .nil => 1
  | .ptr d => uptoBulk d + 1
  | .slice elems spare => uptoBulkAll elems + uptoBulkAll spare + 1
  | .agg parts => uptoBulkAll parts + 1
  | .iface _ d => uptoBulk d + 1
  | .map entries => uptoBulkEntries entries + 1
  | .held _ => 1
def uptoBulkAll {H : Type} : List (DataW H) → Nat
  | [] => 0
  | d :: r => uptoBulk d + uptoBulkAll r
def uptoBulkEntries {H : Type} : List (Lit × DataW H) → Nat
  | [] => 0
  | x :: r => uptoBulkEntry x + uptoBulkEntries r
def uptoBulkEntry {H : Type} : Lit × DataW H → Nat
  | (.string bytes, d) => bytes.length + uptoBulk d + 1
  | (_, d) => uptoBulk d + 1
 end
def uptoSmall : (H : Type) → List (DataW H) → Bool := fun _ ds => decide (uptoBulkAll ds ≤ 1048576)
def OpenSpec.upto (s : _root_.Go.ChangeSpec) : _root_.Go.OpenSpec := { _root_.Go.OpenSpec.ofChange s with cond := some uptoSmall }

/-- 'flumelaw22.WalCursors', WHERE WHAT IT READS IS OF BULK AT MOST 1048576: true; the input reads as it did. -/
def walCursorsUptoRow : OpenClaim := { program := "ytiedaccgagnofaagreat", sum := "9fc7eeac656c8c5c7a0a851ea4221f78c483865c1d14da1d857fd1e13907ee0a", func := "flume/flumelaw22.WalCursors", spec := "walCursors", inPlace := ["math.Float64bits", "math.Float64frombits", "(*internal/sync.Mutex).Lock", "internal/race.Disable", "sync/atomic.CompareAndSwapInt32", "internal/race.Enable", "internal/race.Acquire", "(*internal/sync.Mutex).lockSlow", "internal/sync.runtime_canSpin", "internal/sync.runtime_doSpin", "internal/sync.throw", "internal/sync.runtime_nanotime", "internal/sync.runtime_SemacquireMutex", "sync/atomic.AddInt32", "(*internal/sync.Mutex).Unlock", "internal/race.ReleaseMerge", "(*internal/sync.Mutex).unlockSlow", "internal/sync.fatal", "internal/sync.runtime_Semrelease", "math.archCeil", "math.archFloor", "math.archTrunc"], unfollowed := true, recurses := true, apart := false, narrowed := true }
def WalCursorsUptoSaid : Prop := walCursorsUptoRow.holds Tryz.pinned (OpenSpec.upto walCursorsSpec)

/-- 'flumelaw22.WalNone', WHERE WHAT IT READS IS OF BULK AT MOST 1048576: true; the input reads as it did. -/
def walNoneUptoRow : OpenClaim := { program := "ytiedaccgagnofaagreat", sum := "9fc7eeac656c8c5c7a0a851ea4221f78c483865c1d14da1d857fd1e13907ee0a", func := "flume/flumelaw22.WalNone", spec := "walNone", inPlace := ["math.Float64bits", "math.Float64frombits", "(*internal/sync.Mutex).Lock", "internal/race.Disable", "sync/atomic.CompareAndSwapInt32", "internal/race.Enable", "internal/race.Acquire", "(*internal/sync.Mutex).lockSlow", "internal/sync.runtime_canSpin", "internal/sync.runtime_doSpin", "internal/sync.throw", "internal/sync.runtime_nanotime", "internal/sync.runtime_SemacquireMutex", "sync/atomic.AddInt32", "(*internal/sync.Mutex).Unlock", "internal/race.ReleaseMerge", "(*internal/sync.Mutex).unlockSlow", "internal/sync.fatal", "internal/sync.runtime_Semrelease", "math.archCeil", "math.archFloor", "math.archTrunc"], unfollowed := true, recurses := true, apart := false, narrowed := true }
def WalNoneUptoSaid : Prop := walNoneUptoRow.holds Tryz.pinned (OpenSpec.upto walNoneSpec)

/-- 'flumelaw22.WalTail', WHERE WHAT IT READS IS OF BULK AT MOST 1048576: true; the input reads as it did. -/
def walTailUptoRow : OpenClaim := { program := "ytiedaccgagnofaagreat", sum := "9fc7eeac656c8c5c7a0a851ea4221f78c483865c1d14da1d857fd1e13907ee0a", func := "flume/flumelaw22.WalTail", spec := "walTail", inPlace := ["math.Float64bits", "math.Float64frombits", "(*internal/sync.Mutex).Lock", "internal/race.Disable", "sync/atomic.CompareAndSwapInt32", "internal/race.Enable", "internal/race.Acquire", "(*internal/sync.Mutex).lockSlow", "internal/sync.runtime_canSpin", "internal/sync.runtime_doSpin", "internal/sync.throw", "internal/sync.runtime_nanotime", "internal/sync.runtime_SemacquireMutex", "sync/atomic.AddInt32", "(*internal/sync.Mutex).Unlock", "internal/race.ReleaseMerge", "(*internal/sync.Mutex).unlockSlow", "internal/sync.fatal", "internal/sync.runtime_Semrelease", "math.archCeil", "math.archFloor", "math.archTrunc"], unfollowed := true, recurses := true, apart := false, narrowed := true }
def WalTailUptoSaid : Prop := walTailUptoRow.holds Tryz.pinned (OpenSpec.upto walTailSpec)

/-- 'flumelaw22.WalCloses', WHERE WHAT IT READS IS OF BULK AT MOST 1048576: true; the input reads as it did. -/
def walClosesUptoRow : OpenClaim := { program := "ytiedaccgagnofaagreat", sum := "9fc7eeac656c8c5c7a0a851ea4221f78c483865c1d14da1d857fd1e13907ee0a", func := "flume/flumelaw22.WalCloses", spec := "walCloses", inPlace := ["math.Float64bits", "math.Float64frombits", "(*internal/sync.Mutex).Lock", "internal/race.Disable", "sync/atomic.CompareAndSwapInt32", "internal/race.Enable", "internal/race.Acquire", "(*internal/sync.Mutex).lockSlow", "internal/sync.runtime_canSpin", "internal/sync.runtime_doSpin", "internal/sync.throw", "internal/sync.runtime_nanotime", "internal/sync.runtime_SemacquireMutex", "sync/atomic.AddInt32", "(*internal/sync.Mutex).Unlock", "internal/race.ReleaseMerge", "(*internal/sync.Mutex).unlockSlow", "internal/sync.fatal", "internal/sync.runtime_Semrelease", "math.archCeil", "math.archFloor", "math.archTrunc"], unfollowed := true, recurses := true, apart := false, narrowed := true }
def WalClosesUptoSaid : Prop := walClosesUptoRow.holds Tryz.pinned (OpenSpec.upto walClosesSpec)

/-- 'flumelaw23.ModelWal', WHERE WHAT IT READS IS OF BULK AT MOST 1048576: true; the input reads as it did. -/
def modelWalUptoRow : OpenClaim := { program := "ytiedaccgagnofaagreat", sum := "9fc7eeac656c8c5c7a0a851ea4221f78c483865c1d14da1d857fd1e13907ee0a", func := "flume/flumelaw23.ModelWal", spec := "modelWal", inPlace := ["math.Float64bits", "math.Float64frombits", "(*internal/sync.Mutex).Lock", "internal/race.Disable", "sync/atomic.CompareAndSwapInt32", "internal/race.Enable", "internal/race.Acquire", "(*internal/sync.Mutex).lockSlow", "internal/sync.runtime_canSpin", "internal/sync.runtime_doSpin", "internal/sync.throw", "internal/sync.runtime_nanotime", "internal/sync.runtime_SemacquireMutex", "sync/atomic.AddInt32", "(*internal/sync.Mutex).Unlock", "internal/race.ReleaseMerge", "(*internal/sync.Mutex).unlockSlow", "internal/sync.fatal", "internal/sync.runtime_Semrelease", "math.archCeil", "math.archFloor", "math.archTrunc"], unfollowed := true, recurses := true, apart := false, narrowed := true }
def ModelWalUptoSaid : Prop := modelWalUptoRow.holds Tryz.pinned (OpenSpec.upto modelWalSpec)

end Rows
end Go.Proofs.YtiedaccgagnofaaGreat
