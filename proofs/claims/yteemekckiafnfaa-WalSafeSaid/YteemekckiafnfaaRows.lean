/-
  No cell of these rows narrows 'for every input' (looked for: loops, veiled, ifaces, maps, wideKeys, modest, calm, conditions, laid).
  DERIVED. THE GIVEN ROWS OF THIS SEAT. 6 by the template 'for every input the law returns true; each argument reads behind the call as it read before'; 0 by the template 'total and deterministic' (their statements: YteemekckiafnfaaTotals.lean).
  GIVEN WITH THE SEED: the statements are not yours to turn. If you find one false, say at which input.
  Laid BY PROGRAM, IN A SANDBOX (cutbox-rows.mjs): the forced cells as the released guide's own fill.sh prints them over the translation 733ccb57401fff8f… (all of the seat's roots in one cut). By AI agents, Wed Nov 11 2026. No macro, syntax, notation, axiom, sorry.
-/
import Derived.Test.YteemekckiafnfaaChecked
import GoSem.Claim
import GoSem.ClaimJoined
import GoSem.ClaimMapViews
import Derived.JoinedTies
import Derived.KernelRfl
namespace Go.Proofs.Yteemekckiafnfaa
/- THE CELL 'sum', in the pinned program and in every row, IS THE sha256 OF THE DUMP (.gsa) THAT YteemekckiafnfaaProg.lean LOADS. Nothing in Lean hashes anything: it is a label: what it is worth is what the hold of that sum in a sandbox is worth. -/
noncomputable def Try.pinned : Pinned := { name := "yteemekckiafnfaa", sum := "733ccb57401fff8f4482bb366c262e7f47d5954e6005eed2d37052d6019caf03", checked := Try.checked }
namespace Rows
def none {H : Type} : Left H := { results := [], args := [] }

/-- 'seawalllaw04.WalRoom': WHATEVER THE INPUT: true; the input reads as it did. -/
def walRoomSpec : ChangeSpec := { name := "walRoom", fn := fun _ => fun
  | [d1, d2] => { results := [.lit (.bool true)], args := [d1, d2] }
  | _ => none }
def walRoomRow : OpenClaim := { program := "yteemekckiafnfaa", sum := "733ccb57401fff8f4482bb366c262e7f47d5954e6005eed2d37052d6019caf03", func := "seawall/seawalllaw04.WalRoom", spec := "walRoom", unfollowed := true, recurses := true, apart := false }
def WalRoomSaid : Prop := walRoomRow.holds Try.pinned (OpenSpec.ofChange walRoomSpec)

/-- ITS FALSE NEIGHBOUR: 'it returns false'. Refute it at one input. -/
def walRoomWrong : ChangeSpec := { name := "walRoom", fn := fun _ => fun
  | [d1, d2] => { results := [.lit (.bool false)], args := [d1, d2] }
  | _ => none }
def WalRoomWrongFalsely : Prop := walRoomRow.holds Try.pinned (OpenSpec.ofChange walRoomWrong)

/-- 'seawalllaw04.WalOwn': WHATEVER THE INPUT: true; the input reads as it did. -/
def walOwnSpec : ChangeSpec := { name := "walOwn", fn := fun _ => fun
  | [d] => { results := [.lit (.bool true)], args := [d] }
  | _ => none }
def walOwnRow : OpenClaim := { program := "yteemekckiafnfaa", sum := "733ccb57401fff8f4482bb366c262e7f47d5954e6005eed2d37052d6019caf03", func := "seawall/seawalllaw04.WalOwn", spec := "walOwn", unfollowed := true, recurses := true, apart := false }
def WalOwnSaid : Prop := walOwnRow.holds Try.pinned (OpenSpec.ofChange walOwnSpec)

/-- ITS FALSE NEIGHBOUR: 'it returns false'. Refute it at one input. -/
def walOwnWrong : ChangeSpec := { name := "walOwn", fn := fun _ => fun
  | [d] => { results := [.lit (.bool false)], args := [d] }
  | _ => none }
def WalOwnWrongFalsely : Prop := walOwnRow.holds Try.pinned (OpenSpec.ofChange walOwnWrong)

/-- 'seawalllaw04.WalPlays': WHATEVER THE INPUT: true; the input reads as it did. -/
def walPlaysSpec : ChangeSpec := { name := "walPlays", fn := fun _ => fun
  | [d1, d2] => { results := [.lit (.bool true)], args := [d1, d2] }
  | _ => none }
def walPlaysRow : OpenClaim := { program := "yteemekckiafnfaa", sum := "733ccb57401fff8f4482bb366c262e7f47d5954e6005eed2d37052d6019caf03", func := "seawall/seawalllaw04.WalPlays", spec := "walPlays", unfollowed := true, recurses := true, apart := false }
def WalPlaysSaid : Prop := walPlaysRow.holds Try.pinned (OpenSpec.ofChange walPlaysSpec)

/-- ITS FALSE NEIGHBOUR: 'it returns false'. Refute it at one input. -/
def walPlaysWrong : ChangeSpec := { name := "walPlays", fn := fun _ => fun
  | [d1, d2] => { results := [.lit (.bool false)], args := [d1, d2] }
  | _ => none }
def WalPlaysWrongFalsely : Prop := walPlaysRow.holds Try.pinned (OpenSpec.ofChange walPlaysWrong)

/-- 'seawalllaw04.WalSafe': WHATEVER THE INPUT: true; the input reads as it did. -/
def walSafeSpec : ChangeSpec := { name := "walSafe", fn := fun _ => fun
  | [d1, d2, d3, d4] => { results := [.lit (.bool true)], args := [d1, d2, d3, d4] }
  | _ => none }
def walSafeRow : OpenClaim := { program := "yteemekckiafnfaa", sum := "733ccb57401fff8f4482bb366c262e7f47d5954e6005eed2d37052d6019caf03", func := "seawall/seawalllaw04.WalSafe", spec := "walSafe", unfollowed := true, recurses := true, apart := false }
def WalSafeSaid : Prop := walSafeRow.holds Try.pinned (OpenSpec.ofChange walSafeSpec)

/-- ITS FALSE NEIGHBOUR: 'it returns false'. Refute it at one input. -/
def walSafeWrong : ChangeSpec := { name := "walSafe", fn := fun _ => fun
  | [d1, d2, d3, d4] => { results := [.lit (.bool false)], args := [d1, d2, d3, d4] }
  | _ => none }
def WalSafeWrongFalsely : Prop := walSafeRow.holds Try.pinned (OpenSpec.ofChange walSafeWrong)

/-- 'seawalllaw04.WalTurns': WHATEVER THE INPUT: true; the input reads as it did. -/
def walTurnsSpec : ChangeSpec := { name := "walTurns", fn := fun _ => fun
  | [d1, d2, d3, d4] => { results := [.lit (.bool true)], args := [d1, d2, d3, d4] }
  | _ => none }
def walTurnsRow : OpenClaim := { program := "yteemekckiafnfaa", sum := "733ccb57401fff8f4482bb366c262e7f47d5954e6005eed2d37052d6019caf03", func := "seawall/seawalllaw04.WalTurns", spec := "walTurns", unfollowed := true, recurses := true, apart := false }
def WalTurnsSaid : Prop := walTurnsRow.holds Try.pinned (OpenSpec.ofChange walTurnsSpec)

/-- ITS FALSE NEIGHBOUR: 'it returns false'. Refute it at one input. -/
def walTurnsWrong : ChangeSpec := { name := "walTurns", fn := fun _ => fun
  | [d1, d2, d3, d4] => { results := [.lit (.bool false)], args := [d1, d2, d3, d4] }
  | _ => none }
def WalTurnsWrongFalsely : Prop := walTurnsRow.holds Try.pinned (OpenSpec.ofChange walTurnsWrong)

/-- 'seawalllaw04.WalAgain': WHATEVER THE INPUT: true; the input reads as it did. -/
def walAgainSpec : ChangeSpec := { name := "walAgain", fn := fun _ => fun
  | [d] => { results := [.lit (.bool true)], args := [d] }
  | _ => none }
def walAgainRow : OpenClaim := { program := "yteemekckiafnfaa", sum := "733ccb57401fff8f4482bb366c262e7f47d5954e6005eed2d37052d6019caf03", func := "seawall/seawalllaw04.WalAgain", spec := "walAgain", unfollowed := true, recurses := true, apart := false }
def WalAgainSaid : Prop := walAgainRow.holds Try.pinned (OpenSpec.ofChange walAgainSpec)

/-- ITS FALSE NEIGHBOUR: 'it returns false'. Refute it at one input. -/
def walAgainWrong : ChangeSpec := { name := "walAgain", fn := fun _ => fun
  | [d] => { results := [.lit (.bool false)], args := [d] }
  | _ => none }
def WalAgainWrongFalsely : Prop := walAgainRow.holds Try.pinned (OpenSpec.ofChange walAgainWrong)

/- THE SECOND FORM. 'bulk': how many values and letters a reading holds, each counted each time it is reached (what is shared counts as often as it is met; a slice's spare places count too). A statement '..UptoSaid' is the law's where the arguments, and the package variables that the reading takes, are together of bulk at most 1048576: NARROWER than '..Said'. Prove '..Said' where nothing that the law and all that it calls make is longer than what came in: it says more and counts as full. Else prove '..UptoSaid'. A law counts once. -/
mutual
def uptoBulk {H : Type} : DataW H → Nat
  | .lit (.string bytes) => bytes.length + 1
  | .lit _ => 1
  | .nil => 1
  | .ptr d => uptoBulk d + 1
  | .slice elems spare => uptoBulkAll elems + uptoBulkAll spare + 1
  | .agg parts => uptoBulkAll parts + 1
  | .iface _ d => uptoBulk d + 1
  | .map entries => uptoBulkEntries entries + 1
  | .held _ => 1
def uptoBulkAll {H : Type} : List (DataW H) → Nat
  | [] => 0
  | d :: r => uptoBulk d + uptoBulkAll r
def uptoBulkEntries {H : Type} : List (Lit × DataW H) → Nat
  | [] => 0
  | x :: r => uptoBulkEntry x + uptoBulkEntries r
def uptoBulkEntry {H : Type} : Lit × DataW H → Nat
  | (.string bytes, d) => bytes.length + uptoBulk d + 1
  | (_, d) => uptoBulk d + 1
 end
def uptoSmall : (H : Type) → List (DataW H) → Bool := fun _ ds => decide (uptoBulkAll ds ≤ 1048576)
def OpenSpec.upto (s : _root_.Go.ChangeSpec) : _root_.Go.OpenSpec := { _root_.Go.OpenSpec.ofChange s with cond := some uptoSmall }

/-- 'seawalllaw04.WalRoom', WHERE WHAT IT READS IS OF BULK AT MOST 1048576: true; the input reads as it did. -/
def walRoomUptoRow : OpenClaim := { program := "yteemekckiafnfaa", sum := "733ccb57401fff8f4482bb366c262e7f47d5954e6005eed2d37052d6019caf03", func := "seawall/seawalllaw04.WalRoom", spec := "walRoom", unfollowed := true, recurses := true, apart := false, narrowed := true }
def WalRoomUptoSaid : Prop := walRoomUptoRow.holds Try.pinned (OpenSpec.upto walRoomSpec)

/-- 'seawalllaw04.WalOwn', WHERE WHAT IT READS IS OF BULK AT MOST 1048576: true; the input reads as it did. -/
def walOwnUptoRow : OpenClaim := { program := "yteemekckiafnfaa", sum := "733ccb57401fff8f4482bb366c262e7f47d5954e6005eed2d37052d6019caf03", func := "seawall/seawalllaw04.WalOwn", spec := "walOwn", unfollowed := true, recurses := true, apart := false, narrowed := true }
def WalOwnUptoSaid : Prop := walOwnUptoRow.holds Try.pinned (OpenSpec.upto walOwnSpec)

/-- 'seawalllaw04.WalPlays', WHERE WHAT IT READS IS OF BULK AT MOST 1048576: true; the input reads as it did. -/
def walPlaysUptoRow : OpenClaim := { program := "yteemekckiafnfaa", sum := "733ccb57401fff8f4482bb366c262e7f47d5954e6005eed2d37052d6019caf03", func := "seawall/seawalllaw04.WalPlays", spec := "walPlays", unfollowed := true, recurses := true, apart := false, narrowed := true }
def WalPlaysUptoSaid : Prop := walPlaysUptoRow.holds Try.pinned (OpenSpec.upto walPlaysSpec)

/-- 'seawalllaw04.WalSafe', WHERE WHAT IT READS IS OF BULK AT MOST 1048576: true; the input reads as it did. -/
def walSafeUptoRow : OpenClaim := { program := "yteemekckiafnfaa", sum := "733ccb57401fff8f4482bb366c262e7f47d5954e6005eed2d37052d6019caf03", func := "seawall/seawalllaw04.WalSafe", spec := "walSafe", unfollowed := true, recurses := true, apart := false, narrowed := true }
def WalSafeUptoSaid : Prop := walSafeUptoRow.holds Try.pinned (OpenSpec.upto walSafeSpec)

/-- 'seawalllaw04.WalTurns', WHERE WHAT IT READS IS OF BULK AT MOST 1048576: true; the input reads as it did. -/
def walTurnsUptoRow : OpenClaim := { program := "yteemekckiafnfaa", sum := "733ccb57401fff8f4482bb366c262e7f47d5954e6005eed2d37052d6019caf03", func := "seawall/seawalllaw04.WalTurns", spec := "walTurns", unfollowed := true, recurses := true, apart := false, narrowed := true }
def WalTurnsUptoSaid : Prop := walTurnsUptoRow.holds Try.pinned (OpenSpec.upto walTurnsSpec)

/-- 'seawalllaw04.WalAgain', WHERE WHAT IT READS IS OF BULK AT MOST 1048576: true; the input reads as it did. -/
def walAgainUptoRow : OpenClaim := { program := "yteemekckiafnfaa", sum := "733ccb57401fff8f4482bb366c262e7f47d5954e6005eed2d37052d6019caf03", func := "seawall/seawalllaw04.WalAgain", spec := "walAgain", unfollowed := true, recurses := true, apart := false, narrowed := true }
def WalAgainUptoSaid : Prop := walAgainUptoRow.holds Try.pinned (OpenSpec.upto walAgainSpec)

end Rows
end Go.Proofs.Yteemekckiafnfaa
