/-
  No cell of these rows narrows 'for every input' (looked for: loops, veiled, ifaces, maps, wideKeys, modest, calm, conditions, laid).
  DERIVED. THE GIVEN ROWS OF THIS SEAT. 3 by the template 'for every input the law returns true; each argument reads behind the call as it read before'; 0 by the template 'total and deterministic' (their statements: YtkhddpiopbmhjaaGreatTotals.lean).
  GIVEN WITH THE SEED: the statements are not yours to turn. If you find one false, say at which input.
  Laid BY PROGRAM, IN A SANDBOX (cutbox-rows.mjs): the forced cells as the released guide's own fill.sh prints them over the translation a8bd47ff6f16421e… (all of the seat's roots in one cut). By AI agents, Wed Nov 11 2026. No macro, syntax, notation, axiom, sorry.
-/
import Derived.Test.YtkhddpiopbmhjaaGreatChecked
import GoSem.Claim
import GoSem.ClaimJoined
import GoSem.ClaimMapViews
import Derived.JoinedTies
import Derived.KernelRfl
namespace Go.Proofs.YtkhddpiopbmhjaaGreat
/- THE CELL 'sum', in the pinned program and in every row, IS THE sha256 OF THE DUMP (.gsa) THAT YtkhddpiopbmhjaaGreatProg.lean LOADS. Nothing in Lean hashes anything: it is a label: what it is worth is what the hold of that sum in a sandbox is worth. -/
noncomputable def Tryz.pinned : Pinned := { name := "ytkhddpiopbmhjaagreat", sum := "a8bd47ff6f16421e3dcf6d1d91ccdfebcb5e9e29ef6c5cfc29e0159d16bc6057", checked := Tryz.checked }
namespace Rows
def none {H : Type} : Left H := { results := [], args := [] }

/-- 'seawalllaw22.GroupOnce': WHATEVER THE INPUT: true; the input reads as it did. -/
def groupOnceSpec : ChangeSpec := { name := "groupOnce", fn := fun _ => fun
  | [d] => { results := [.lit (.bool true)], args := [d] }
  | _ => none }
def groupOnceRow : OpenClaim := { program := "ytkhddpiopbmhjaagreat", sum := "a8bd47ff6f16421e3dcf6d1d91ccdfebcb5e9e29ef6c5cfc29e0159d16bc6057", func := "seawall/seawalllaw22.GroupOnce", spec := "groupOnce", inPlace := ["maps.clone", "slices.overlaps[seawall/api.Entry]", "sync/atomic.LoadUint32", "(*internal/sync.Mutex).Lock", "internal/race.Disable", "sync/atomic.CompareAndSwapInt32", "internal/race.Enable", "internal/race.Acquire", "(*internal/sync.Mutex).lockSlow", "internal/sync.runtime_canSpin", "internal/sync.runtime_doSpin", "internal/sync.throw", "internal/sync.runtime_nanotime", "internal/sync.runtime_SemacquireMutex", "sync/atomic.AddInt32", "(*internal/sync.Mutex).Unlock", "internal/race.ReleaseMerge", "(*internal/sync.Mutex).unlockSlow", "internal/sync.fatal", "internal/sync.runtime_Semrelease", "sync/atomic.StoreUint32", "sync/atomic.AddInt64"], unfollowed := true, recurses := true, apart := false }
def GroupOnceSaid : Prop := groupOnceRow.holds Tryz.pinned (OpenSpec.ofChange groupOnceSpec)

/-- ITS FALSE NEIGHBOUR: 'it returns false'. Refute it at one input. -/
def groupOnceWrong : ChangeSpec := { name := "groupOnce", fn := fun _ => fun
  | [d] => { results := [.lit (.bool false)], args := [d] }
  | _ => none }
def GroupOnceWrongFalsely : Prop := groupOnceRow.holds Tryz.pinned (OpenSpec.ofChange groupOnceWrong)

/-- 'seawalllaw22.GroupCatches': WHATEVER THE INPUT: true; the input reads as it did. -/
def groupCatchesSpec : ChangeSpec := { name := "groupCatches", fn := fun _ => fun
  | [d1, d2] => { results := [.lit (.bool true)], args := [d1, d2] }
  | _ => none }
def groupCatchesRow : OpenClaim := { program := "ytkhddpiopbmhjaagreat", sum := "a8bd47ff6f16421e3dcf6d1d91ccdfebcb5e9e29ef6c5cfc29e0159d16bc6057", func := "seawall/seawalllaw22.GroupCatches", spec := "groupCatches", inPlace := ["maps.clone", "slices.overlaps[seawall/api.Entry]", "sync/atomic.LoadUint32", "(*internal/sync.Mutex).Lock", "internal/race.Disable", "sync/atomic.CompareAndSwapInt32", "internal/race.Enable", "internal/race.Acquire", "(*internal/sync.Mutex).lockSlow", "internal/sync.runtime_canSpin", "internal/sync.runtime_doSpin", "internal/sync.throw", "internal/sync.runtime_nanotime", "internal/sync.runtime_SemacquireMutex", "sync/atomic.AddInt32", "(*internal/sync.Mutex).Unlock", "internal/race.ReleaseMerge", "(*internal/sync.Mutex).unlockSlow", "internal/sync.fatal", "internal/sync.runtime_Semrelease", "sync/atomic.StoreUint32", "sync/atomic.AddInt64"], unfollowed := true, recurses := true, apart := false }
def GroupCatchesSaid : Prop := groupCatchesRow.holds Tryz.pinned (OpenSpec.ofChange groupCatchesSpec)

/-- ITS FALSE NEIGHBOUR: 'it returns false'. Refute it at one input. -/
def groupCatchesWrong : ChangeSpec := { name := "groupCatches", fn := fun _ => fun
  | [d1, d2] => { results := [.lit (.bool false)], args := [d1, d2] }
  | _ => none }
def GroupCatchesWrongFalsely : Prop := groupCatchesRow.holds Tryz.pinned (OpenSpec.ofChange groupCatchesWrong)

/-- 'seawalllaw22.GroupAsks': WHATEVER THE INPUT: true; the input reads as it did. -/
def groupAsksSpec : ChangeSpec := { name := "groupAsks", fn := fun _ => fun
  | [d1, d2] => { results := [.lit (.bool true)], args := [d1, d2] }
  | _ => none }
def groupAsksRow : OpenClaim := { program := "ytkhddpiopbmhjaagreat", sum := "a8bd47ff6f16421e3dcf6d1d91ccdfebcb5e9e29ef6c5cfc29e0159d16bc6057", func := "seawall/seawalllaw22.GroupAsks", spec := "groupAsks", inPlace := ["maps.clone", "slices.overlaps[seawall/api.Entry]", "sync/atomic.LoadUint32", "(*internal/sync.Mutex).Lock", "internal/race.Disable", "sync/atomic.CompareAndSwapInt32", "internal/race.Enable", "internal/race.Acquire", "(*internal/sync.Mutex).lockSlow", "internal/sync.runtime_canSpin", "internal/sync.runtime_doSpin", "internal/sync.throw", "internal/sync.runtime_nanotime", "internal/sync.runtime_SemacquireMutex", "sync/atomic.AddInt32", "(*internal/sync.Mutex).Unlock", "internal/race.ReleaseMerge", "(*internal/sync.Mutex).unlockSlow", "internal/sync.fatal", "internal/sync.runtime_Semrelease", "sync/atomic.StoreUint32", "sync/atomic.AddInt64"], unfollowed := true, recurses := true, apart := false }
def GroupAsksSaid : Prop := groupAsksRow.holds Tryz.pinned (OpenSpec.ofChange groupAsksSpec)

/-- ITS FALSE NEIGHBOUR: 'it returns false'. Refute it at one input. -/
def groupAsksWrong : ChangeSpec := { name := "groupAsks", fn := fun _ => fun
  | [d1, d2] => { results := [.lit (.bool false)], args := [d1, d2] }
  | _ => none }
def GroupAsksWrongFalsely : Prop := groupAsksRow.holds Tryz.pinned (OpenSpec.ofChange groupAsksWrong)

/- THE SECOND FORM. 'bulk': how many values and letters a reading holds, each counted each time it is reached (what is shared counts as often as it is met; a slice's spare places count too). A statement '..UptoSaid' is the law's where the arguments, and the package variables that the reading takes, are together of bulk at most 1048576: NARROWER than '..Said'. Prove '..Said' where nothing that the law and all that it calls make is longer than what came in: it says more and counts as full. Else prove '..UptoSaid'. A law counts once. -/
mutual
def uptoBulk {H : Type} : DataW H → Nat
  | .lit (.string bytes) => bytes.length + 1
  | .lit _ => 1
  | .nil => 1
  | .ptr d => uptoBulk d + 1
  | .slice elems spare => uptoBulkAll elems + uptoBulkAll spare + 1
  | .agg parts => uptoBulkAll parts + 1
  | .iface _ d => uptoBulk d + 1
  | .map entries => uptoBulkEntries entries + 1
  | .held _ => 1
def uptoBulkAll {H : Type} : List (DataW H) → Nat
  | [] => 0
  | d :: r => uptoBulk d + uptoBulkAll r
def uptoBulkEntries {H : Type} : List (Lit × DataW H) → Nat
  | [] => 0
  | x :: r => uptoBulkEntry x + uptoBulkEntries r
def uptoBulkEntry {H : Type} : Lit × DataW H → Nat
  | (.string bytes, d) => bytes.length + uptoBulk d + 1
  | (_, d) => uptoBulk d + 1
 end
def uptoSmall : (H : Type) → List (DataW H) → Bool := fun _ ds => decide (uptoBulkAll ds ≤ 1048576)
def OpenSpec.upto (s : _root_.Go.ChangeSpec) : _root_.Go.OpenSpec := { _root_.Go.OpenSpec.ofChange s with cond := some uptoSmall }

/-- 'seawalllaw22.GroupOnce', WHERE WHAT IT READS IS OF BULK AT MOST 1048576: true; the input reads as it did. -/
def groupOnceUptoRow : OpenClaim := { program := "ytkhddpiopbmhjaagreat", sum := "a8bd47ff6f16421e3dcf6d1d91ccdfebcb5e9e29ef6c5cfc29e0159d16bc6057", func := "seawall/seawalllaw22.GroupOnce", spec := "groupOnce", inPlace := ["maps.clone", "slices.overlaps[seawall/api.Entry]", "sync/atomic.LoadUint32", "(*internal/sync.Mutex).Lock", "internal/race.Disable", "sync/atomic.CompareAndSwapInt32", "internal/race.Enable", "internal/race.Acquire", "(*internal/sync.Mutex).lockSlow", "internal/sync.runtime_canSpin", "internal/sync.runtime_doSpin", "internal/sync.throw", "internal/sync.runtime_nanotime", "internal/sync.runtime_SemacquireMutex", "sync/atomic.AddInt32", "(*internal/sync.Mutex).Unlock", "internal/race.ReleaseMerge", "(*internal/sync.Mutex).unlockSlow", "internal/sync.fatal", "internal/sync.runtime_Semrelease", "sync/atomic.StoreUint32", "sync/atomic.AddInt64"], unfollowed := true, recurses := true, apart := false, narrowed := true }
def GroupOnceUptoSaid : Prop := groupOnceUptoRow.holds Tryz.pinned (OpenSpec.upto groupOnceSpec)

/-- 'seawalllaw22.GroupCatches', WHERE WHAT IT READS IS OF BULK AT MOST 1048576: true; the input reads as it did. -/
def groupCatchesUptoRow : OpenClaim := { program := "ytkhddpiopbmhjaagreat", sum := "a8bd47ff6f16421e3dcf6d1d91ccdfebcb5e9e29ef6c5cfc29e0159d16bc6057", func := "seawall/seawalllaw22.GroupCatches", spec := "groupCatches", inPlace := ["maps.clone", "slices.overlaps[seawall/api.Entry]", "sync/atomic.LoadUint32", "(*internal/sync.Mutex).Lock", "internal/race.Disable", "sync/atomic.CompareAndSwapInt32", "internal/race.Enable", "internal/race.Acquire", "(*internal/sync.Mutex).lockSlow", "internal/sync.runtime_canSpin", "internal/sync.runtime_doSpin", "internal/sync.throw", "internal/sync.runtime_nanotime", "internal/sync.runtime_SemacquireMutex", "sync/atomic.AddInt32", "(*internal/sync.Mutex).Unlock", "internal/race.ReleaseMerge", "(*internal/sync.Mutex).unlockSlow", "internal/sync.fatal", "internal/sync.runtime_Semrelease", "sync/atomic.StoreUint32", "sync/atomic.AddInt64"], unfollowed := true, recurses := true, apart := false, narrowed := true }
def GroupCatchesUptoSaid : Prop := groupCatchesUptoRow.holds Tryz.pinned (OpenSpec.upto groupCatchesSpec)

/-- 'seawalllaw22.GroupAsks', WHERE WHAT IT READS IS OF BULK AT MOST 1048576: true; the input reads as it did. -/
def groupAsksUptoRow : OpenClaim := { program := "ytkhddpiopbmhjaagreat", sum := "a8bd47ff6f16421e3dcf6d1d91ccdfebcb5e9e29ef6c5cfc29e0159d16bc6057", func := "seawall/seawalllaw22.GroupAsks", spec := "groupAsks", inPlace := ["maps.clone", "slices.overlaps[seawall/api.Entry]", "sync/atomic.LoadUint32", "(*internal/sync.Mutex).Lock", "internal/race.Disable", "sync/atomic.CompareAndSwapInt32", "internal/race.Enable", "internal/race.Acquire", "(*internal/sync.Mutex).lockSlow", "internal/sync.runtime_canSpin", "internal/sync.runtime_doSpin", "internal/sync.throw", "internal/sync.runtime_nanotime", "internal/sync.runtime_SemacquireMutex", "sync/atomic.AddInt32", "(*internal/sync.Mutex).Unlock", "internal/race.ReleaseMerge", "(*internal/sync.Mutex).unlockSlow", "internal/sync.fatal", "internal/sync.runtime_Semrelease", "sync/atomic.StoreUint32", "sync/atomic.AddInt64"], unfollowed := true, recurses := true, apart := false, narrowed := true }
def GroupAsksUptoSaid : Prop := groupAsksUptoRow.holds Tryz.pinned (OpenSpec.upto groupAsksSpec)

end Rows
end Go.Proofs.YtkhddpiopbmhjaaGreat
