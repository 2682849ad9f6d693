/-
  No cell of these rows narrows 'for every input' (looked for: loops, veiled, ifaces, maps, wideKeys, modest, calm, conditions, laid).
  DERIVED. THE GIVEN ROWS OF THIS SEAT. 5 by the template 'for every input the law returns true; each argument reads behind the call as it read before'; 0 by the template 'total and deterministic' (their statements: YtkjofdocgaiedaaGreatTotals.lean).
  GIVEN WITH THE SEED: the statements are not yours to turn. If you find one false, say at which input.
  Laid BY PROGRAM, IN A SANDBOX (cutbox-rows.mjs): the forced cells as the released guide's own fill.sh prints them over the translation e2a187ec4fa726e7… (all of the seat's roots in one cut). By AI agents, Wed Nov 11 2026. No macro, syntax, notation, axiom, sorry.
-/
import Derived.Test.YtkjofdocgaiedaaGreatChecked
import GoSem.Claim
import GoSem.ClaimJoined
import GoSem.ClaimMapViews
import Derived.JoinedTies
import Derived.KernelRfl
namespace Go.Proofs.YtkjofdocgaiedaaGreat
/- THE CELL 'sum', in the pinned program and in every row, IS THE sha256 OF THE DUMP (.gsa) THAT YtkjofdocgaiedaaGreatProg.lean LOADS. Nothing in Lean hashes anything: it is a label: what it is worth is what the hold of that sum in a sandbox is worth. -/
noncomputable def Tryz.pinned : Pinned := { name := "ytkjofdocgaiedaagreat", sum := "e2a187ec4fa726e78a36f70afb3310751492712138e64b907d875428a1ecf964", checked := Tryz.checked }
namespace Rows
def none {H : Type} : Left H := { results := [], args := [] }

/-- 'seawalllaw09.AcceptTells': WHATEVER THE INPUT: true; the input reads as it did. -/
def acceptTellsSpec : ChangeSpec := { name := "acceptTells", fn := fun _ => fun
  | [d1, d2] => { results := [.lit (.bool true)], args := [d1, d2] }
  | _ => none }
def acceptTellsRow : OpenClaim := { program := "ytkjofdocgaiedaagreat", sum := "e2a187ec4fa726e78a36f70afb3310751492712138e64b907d875428a1ecf964", func := "seawall/seawalllaw09.AcceptTells", spec := "acceptTells", inPlace := ["maps.clone"], unfollowed := true, recurses := true, apart := false }
def AcceptTellsSaid : Prop := acceptTellsRow.holds Tryz.pinned (OpenSpec.ofChange acceptTellsSpec)

/-- ITS FALSE NEIGHBOUR: 'it returns false'. Refute it at one input. -/
def acceptTellsWrong : ChangeSpec := { name := "acceptTells", fn := fun _ => fun
  | [d1, d2] => { results := [.lit (.bool false)], args := [d1, d2] }
  | _ => none }
def AcceptTellsWrongFalsely : Prop := acceptTellsRow.holds Tryz.pinned (OpenSpec.ofChange acceptTellsWrong)

/-- 'seawalllaw09.AcceptFences': WHATEVER THE INPUT: true; the input reads as it did. -/
def acceptFencesSpec : ChangeSpec := { name := "acceptFences", fn := fun _ => fun
  | [d1, d2] => { results := [.lit (.bool true)], args := [d1, d2] }
  | _ => none }
def acceptFencesRow : OpenClaim := { program := "ytkjofdocgaiedaagreat", sum := "e2a187ec4fa726e78a36f70afb3310751492712138e64b907d875428a1ecf964", func := "seawall/seawalllaw09.AcceptFences", spec := "acceptFences", inPlace := ["maps.clone"], unfollowed := true, recurses := true, apart := false }
def AcceptFencesSaid : Prop := acceptFencesRow.holds Tryz.pinned (OpenSpec.ofChange acceptFencesSpec)

/-- ITS FALSE NEIGHBOUR: 'it returns false'. Refute it at one input. -/
def acceptFencesWrong : ChangeSpec := { name := "acceptFences", fn := fun _ => fun
  | [d1, d2] => { results := [.lit (.bool false)], args := [d1, d2] }
  | _ => none }
def AcceptFencesWrongFalsely : Prop := acceptFencesRow.holds Tryz.pinned (OpenSpec.ofChange acceptFencesWrong)

/-- 'seawalllaw09.AcceptReads': WHATEVER THE INPUT: true; the input reads as it did. -/
def acceptReadsSpec : ChangeSpec := { name := "acceptReads", fn := fun _ => fun
  | [d] => { results := [.lit (.bool true)], args := [d] }
  | _ => none }
def acceptReadsRow : OpenClaim := { program := "ytkjofdocgaiedaagreat", sum := "e2a187ec4fa726e78a36f70afb3310751492712138e64b907d875428a1ecf964", func := "seawall/seawalllaw09.AcceptReads", spec := "acceptReads", inPlace := ["maps.clone"], unfollowed := true, recurses := true, apart := false }
def AcceptReadsSaid : Prop := acceptReadsRow.holds Tryz.pinned (OpenSpec.ofChange acceptReadsSpec)

/-- ITS FALSE NEIGHBOUR: 'it returns false'. Refute it at one input. -/
def acceptReadsWrong : ChangeSpec := { name := "acceptReads", fn := fun _ => fun
  | [d] => { results := [.lit (.bool false)], args := [d] }
  | _ => none }
def AcceptReadsWrongFalsely : Prop := acceptReadsRow.holds Tryz.pinned (OpenSpec.ofChange acceptReadsWrong)

/-- 'seawalllaw09.AcceptPlays': WHATEVER THE INPUT: true; the input reads as it did. -/
def acceptPlaysSpec : ChangeSpec := { name := "acceptPlays", fn := fun _ => fun
  | [d1, d2, d3] => { results := [.lit (.bool true)], args := [d1, d2, d3] }
  | _ => none }
def acceptPlaysRow : OpenClaim := { program := "ytkjofdocgaiedaagreat", sum := "e2a187ec4fa726e78a36f70afb3310751492712138e64b907d875428a1ecf964", func := "seawall/seawalllaw09.AcceptPlays", spec := "acceptPlays", inPlace := ["maps.clone"], unfollowed := true, recurses := true, apart := false }
def AcceptPlaysSaid : Prop := acceptPlaysRow.holds Tryz.pinned (OpenSpec.ofChange acceptPlaysSpec)

/-- ITS FALSE NEIGHBOUR: 'it returns false'. Refute it at one input. -/
def acceptPlaysWrong : ChangeSpec := { name := "acceptPlays", fn := fun _ => fun
  | [d1, d2, d3] => { results := [.lit (.bool false)], args := [d1, d2, d3] }
  | _ => none }
def AcceptPlaysWrongFalsely : Prop := acceptPlaysRow.holds Tryz.pinned (OpenSpec.ofChange acceptPlaysWrong)

/-- 'seawalllaw09.AcceptKeeps': WHATEVER THE INPUT: true; the input reads as it did. -/
def acceptKeepsSpec : ChangeSpec := { name := "acceptKeeps", fn := fun _ => fun
  | [d1, d2, d3] => { results := [.lit (.bool true)], args := [d1, d2, d3] }
  | _ => none }
def acceptKeepsRow : OpenClaim := { program := "ytkjofdocgaiedaagreat", sum := "e2a187ec4fa726e78a36f70afb3310751492712138e64b907d875428a1ecf964", func := "seawall/seawalllaw09.AcceptKeeps", spec := "acceptKeeps", inPlace := ["maps.clone"], unfollowed := true, recurses := true, apart := false }
def AcceptKeepsSaid : Prop := acceptKeepsRow.holds Tryz.pinned (OpenSpec.ofChange acceptKeepsSpec)

/-- ITS FALSE NEIGHBOUR: 'it returns false'. Refute it at one input. -/
def acceptKeepsWrong : ChangeSpec := { name := "acceptKeeps", fn := fun _ => fun
  | [d1, d2, d3] => { results := [.lit (.bool false)], args := [d1, d2, d3] }
  | _ => none }
def AcceptKeepsWrongFalsely : Prop := acceptKeepsRow.holds Tryz.pinned (OpenSpec.ofChange acceptKeepsWrong)

/- THE SECOND FORM. 'bulk': how many values and letters a reading holds, each counted each time it is reached (what is shared counts as often as it is met; a slice's spare places count too). A statement '..UptoSaid' is the law's where the arguments, and the package variables that the reading takes, are together of bulk at most 1048576: NARROWER than '..Said'. Prove '..Said' where nothing that the law and all that it calls make is longer than what came in: it says more and counts as full. Else prove '..UptoSaid'. A law counts once. -/
mutual
def uptoBulk {H : Type} : DataW H → Nat
  | .lit (.string bytes) => bytes.length + 1
  | .lit _ => 1
  | .nil => 1
  | .ptr d => uptoBulk d + 1
  | .slice elems spare => uptoBulkAll elems + uptoBulkAll spare + 1
  | .agg parts => uptoBulkAll parts + 1
  | .iface _ d => uptoBulk d + 1
  | .map entries => uptoBulkEntries entries + 1
  | .held _ => 1
def uptoBulkAll {H : Type} : List (DataW H) → Nat
  | [] => 0
  | d :: r => uptoBulk d + uptoBulkAll r
def uptoBulkEntries {H : Type} : List (Lit × DataW H) → Nat
  | [] => 0
  | x :: r => uptoBulkEntry x + uptoBulkEntries r
def uptoBulkEntry {H : Type} : Lit × DataW H → Nat
  | (.string bytes, d) => bytes.length + uptoBulk d + 1
  | (_, d) => uptoBulk d + 1
 end
def uptoSmall : (H : Type) → List (DataW H) → Bool := fun _ ds => decide (uptoBulkAll ds ≤ 1048576)
def OpenSpec.upto (s : _root_.Go.ChangeSpec) : _root_.Go.OpenSpec := { _root_.Go.OpenSpec.ofChange s with cond := some uptoSmall }

/-- 'seawalllaw09.AcceptTells', WHERE WHAT IT READS IS OF BULK AT MOST 1048576: true; the input reads as it did. -/
def acceptTellsUptoRow : OpenClaim := { program := "ytkjofdocgaiedaagreat", sum := "e2a187ec4fa726e78a36f70afb3310751492712138e64b907d875428a1ecf964", func := "seawall/seawalllaw09.AcceptTells", spec := "acceptTells", inPlace := ["maps.clone"], unfollowed := true, recurses := true, apart := false, narrowed := true }
def AcceptTellsUptoSaid : Prop := acceptTellsUptoRow.holds Tryz.pinned (OpenSpec.upto acceptTellsSpec)

/-- 'seawalllaw09.AcceptFences', WHERE WHAT IT READS IS OF BULK AT MOST 1048576: true; the input reads as it did. -/
def acceptFencesUptoRow : OpenClaim := { program := "ytkjofdocgaiedaagreat", sum := "e2a187ec4fa726e78a36f70afb3310751492712138e64b907d875428a1ecf964", func := "seawall/seawalllaw09.AcceptFences", spec := "acceptFences", inPlace := ["maps.clone"], unfollowed := true, recurses := true, apart := false, narrowed := true }
def AcceptFencesUptoSaid : Prop := acceptFencesUptoRow.holds Tryz.pinned (OpenSpec.upto acceptFencesSpec)

/-- 'seawalllaw09.AcceptReads', WHERE WHAT IT READS IS OF BULK AT MOST 1048576: true; the input reads as it did. -/
def acceptReadsUptoRow : OpenClaim := { program := "ytkjofdocgaiedaagreat", sum := "e2a187ec4fa726e78a36f70afb3310751492712138e64b907d875428a1ecf964", func := "seawall/seawalllaw09.AcceptReads", spec := "acceptReads", inPlace := ["maps.clone"], unfollowed := true, recurses := true, apart := false, narrowed := true }
def AcceptReadsUptoSaid : Prop := acceptReadsUptoRow.holds Tryz.pinned (OpenSpec.upto acceptReadsSpec)

/-- 'seawalllaw09.AcceptPlays', WHERE WHAT IT READS IS OF BULK AT MOST 1048576: true; the input reads as it did. -/
def acceptPlaysUptoRow : OpenClaim := { program := "ytkjofdocgaiedaagreat", sum := "e2a187ec4fa726e78a36f70afb3310751492712138e64b907d875428a1ecf964", func := "seawall/seawalllaw09.AcceptPlays", spec := "acceptPlays", inPlace := ["maps.clone"], unfollowed := true, recurses := true, apart := false, narrowed := true }
def AcceptPlaysUptoSaid : Prop := acceptPlaysUptoRow.holds Tryz.pinned (OpenSpec.upto acceptPlaysSpec)

/-- 'seawalllaw09.AcceptKeeps', WHERE WHAT IT READS IS OF BULK AT MOST 1048576: true; the input reads as it did. -/
def acceptKeepsUptoRow : OpenClaim := { program := "ytkjofdocgaiedaagreat", sum := "e2a187ec4fa726e78a36f70afb3310751492712138e64b907d875428a1ecf964", func := "seawall/seawalllaw09.AcceptKeeps", spec := "acceptKeeps", inPlace := ["maps.clone"], unfollowed := true, recurses := true, apart := false, narrowed := true }
def AcceptKeepsUptoSaid : Prop := acceptKeepsUptoRow.holds Tryz.pinned (OpenSpec.upto acceptKeepsSpec)

end Rows
end Go.Proofs.YtkjofdocgaiedaaGreat
