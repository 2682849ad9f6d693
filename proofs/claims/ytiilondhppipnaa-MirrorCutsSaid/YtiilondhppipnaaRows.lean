/-
  No cell of these rows narrows 'for every input' (looked for: loops, veiled, ifaces, maps, wideKeys, modest, calm, conditions, laid).
  DERIVED. THE GIVEN ROWS OF THIS SEAT. 7 by the template 'for every input the law returns true; each argument reads behind the call as it read before'; 0 by the template 'total and deterministic' (their statements: YtiilondhppipnaaTotals.lean).
  GIVEN WITH THE SEED: the statements are not yours to turn. If you find one false, say at which input.
  Laid BY PROGRAM, IN A SANDBOX (cutbox-rows.mjs): the forced cells as the released guide's own fill.sh prints them over the translation 2ced9deb0449c83b… (all of the seat's roots in one cut). By AI agents, Wed Nov 11 2026. No macro, syntax, notation, axiom, sorry.
-/
import Derived.Test.YtiilondhppipnaaChecked
import GoSem.Claim
import GoSem.ClaimJoined
import GoSem.ClaimMapViews
import Derived.JoinedTies
import Derived.KernelRfl
namespace Go.Proofs.Ytiilondhppipnaa
/- THE CELL 'sum', in the pinned program and in every row, IS THE sha256 OF THE DUMP (.gsa) THAT YtiilondhppipnaaProg.lean LOADS. Nothing in Lean hashes anything: it is a label: what it is worth is what the hold of that sum in a sandbox is worth. -/
noncomputable def Try.pinned : Pinned := { name := "ytiilondhppipnaa", sum := "2ced9deb0449c83b433d35dadbe5e2408d59f072a1aac839d191b3ba1a06551c", checked := Try.checked }
namespace Rows
def none {H : Type} : Left H := { results := [], args := [] }

/-- 'seawalllaw18.MirrorSinks': WHATEVER THE INPUT: true; the input reads as it did. -/
def mirrorSinksSpec : ChangeSpec := { name := "mirrorSinks", fn := fun _ => fun
  | [d] => { results := [.lit (.bool true)], args := [d] }
  | _ => none }
def mirrorSinksRow : OpenClaim := { program := "ytiilondhppipnaa", sum := "2ced9deb0449c83b433d35dadbe5e2408d59f072a1aac839d191b3ba1a06551c", func := "seawall/seawalllaw18.MirrorSinks", spec := "mirrorSinks", recurses := true, apart := false }
def MirrorSinksSaid : Prop := mirrorSinksRow.holds Try.pinned (OpenSpec.ofChange mirrorSinksSpec)

/-- ITS FALSE NEIGHBOUR: 'it returns false'. Refute it at one input. -/
def mirrorSinksWrong : ChangeSpec := { name := "mirrorSinks", fn := fun _ => fun
  | [d] => { results := [.lit (.bool false)], args := [d] }
  | _ => none }
def MirrorSinksWrongFalsely : Prop := mirrorSinksRow.holds Try.pinned (OpenSpec.ofChange mirrorSinksWrong)

/-- 'seawalllaw18.MirrorCuts': WHATEVER THE INPUT: true; the input reads as it did. -/
def mirrorCutsSpec : ChangeSpec := { name := "mirrorCuts", fn := fun _ => fun
  | [d1, d2, d3] => { results := [.lit (.bool true)], args := [d1, d2, d3] }
  | _ => none }
def mirrorCutsRow : OpenClaim := { program := "ytiilondhppipnaa", sum := "2ced9deb0449c83b433d35dadbe5e2408d59f072a1aac839d191b3ba1a06551c", func := "seawall/seawalllaw18.MirrorCuts", spec := "mirrorCuts", recurses := true, apart := false }
def MirrorCutsSaid : Prop := mirrorCutsRow.holds Try.pinned (OpenSpec.ofChange mirrorCutsSpec)

/-- ITS FALSE NEIGHBOUR: 'it returns false'. Refute it at one input. -/
def mirrorCutsWrong : ChangeSpec := { name := "mirrorCuts", fn := fun _ => fun
  | [d1, d2, d3] => { results := [.lit (.bool false)], args := [d1, d2, d3] }
  | _ => none }
def MirrorCutsWrongFalsely : Prop := mirrorCutsRow.holds Try.pinned (OpenSpec.ofChange mirrorCutsWrong)

/-- 'seawalllaw18.MirrorAll': WHATEVER THE INPUT: true; the input reads as it did. -/
def mirrorAllSpec : ChangeSpec := { name := "mirrorAll", fn := fun _ => fun
  | [d1, d2, d3] => { results := [.lit (.bool true)], args := [d1, d2, d3] }
  | _ => none }
def mirrorAllRow : OpenClaim := { program := "ytiilondhppipnaa", sum := "2ced9deb0449c83b433d35dadbe5e2408d59f072a1aac839d191b3ba1a06551c", func := "seawall/seawalllaw18.MirrorAll", spec := "mirrorAll", recurses := true, apart := false }
def MirrorAllSaid : Prop := mirrorAllRow.holds Try.pinned (OpenSpec.ofChange mirrorAllSpec)

/-- ITS FALSE NEIGHBOUR: 'it returns false'. Refute it at one input. -/
def mirrorAllWrong : ChangeSpec := { name := "mirrorAll", fn := fun _ => fun
  | [d1, d2, d3] => { results := [.lit (.bool false)], args := [d1, d2, d3] }
  | _ => none }
def MirrorAllWrongFalsely : Prop := mirrorAllRow.holds Try.pinned (OpenSpec.ofChange mirrorAllWrong)

/-- 'seawalllaw18.MirrorApart': WHATEVER THE INPUT: true; the input reads as it did. -/
def mirrorApartSpec : ChangeSpec := { name := "mirrorApart", fn := fun _ => fun
  | [d1, d2, d3] => { results := [.lit (.bool true)], args := [d1, d2, d3] }
  | _ => none }
def mirrorApartRow : OpenClaim := { program := "ytiilondhppipnaa", sum := "2ced9deb0449c83b433d35dadbe5e2408d59f072a1aac839d191b3ba1a06551c", func := "seawall/seawalllaw18.MirrorApart", spec := "mirrorApart", recurses := true, apart := false }
def MirrorApartSaid : Prop := mirrorApartRow.holds Try.pinned (OpenSpec.ofChange mirrorApartSpec)

/-- ITS FALSE NEIGHBOUR: 'it returns false'. Refute it at one input. -/
def mirrorApartWrong : ChangeSpec := { name := "mirrorApart", fn := fun _ => fun
  | [d1, d2, d3] => { results := [.lit (.bool false)], args := [d1, d2, d3] }
  | _ => none }
def MirrorApartWrongFalsely : Prop := mirrorApartRow.holds Try.pinned (OpenSpec.ofChange mirrorApartWrong)

/-- 'seawalllaw18.MirrorSources': WHATEVER THE INPUT: true; the input reads as it did. -/
def mirrorSourcesSpec : ChangeSpec := { name := "mirrorSources", fn := fun _ => fun
  | [d] => { results := [.lit (.bool true)], args := [d] }
  | _ => none }
def mirrorSourcesRow : OpenClaim := { program := "ytiilondhppipnaa", sum := "2ced9deb0449c83b433d35dadbe5e2408d59f072a1aac839d191b3ba1a06551c", func := "seawall/seawalllaw18.MirrorSources", spec := "mirrorSources", recurses := true, apart := false }
def MirrorSourcesSaid : Prop := mirrorSourcesRow.holds Try.pinned (OpenSpec.ofChange mirrorSourcesSpec)

/-- ITS FALSE NEIGHBOUR: 'it returns false'. Refute it at one input. -/
def mirrorSourcesWrong : ChangeSpec := { name := "mirrorSources", fn := fun _ => fun
  | [d] => { results := [.lit (.bool false)], args := [d] }
  | _ => none }
def MirrorSourcesWrongFalsely : Prop := mirrorSourcesRow.holds Try.pinned (OpenSpec.ofChange mirrorSourcesWrong)

/-- 'seawalllaw18.MirrorAsks': WHATEVER THE INPUT: true; the input reads as it did. -/
def mirrorAsksSpec : ChangeSpec := { name := "mirrorAsks", fn := fun _ => fun
  | [d1, d2, d3, d4] => { results := [.lit (.bool true)], args := [d1, d2, d3, d4] }
  | _ => none }
def mirrorAsksRow : OpenClaim := { program := "ytiilondhppipnaa", sum := "2ced9deb0449c83b433d35dadbe5e2408d59f072a1aac839d191b3ba1a06551c", func := "seawall/seawalllaw18.MirrorAsks", spec := "mirrorAsks", recurses := true, apart := false }
def MirrorAsksSaid : Prop := mirrorAsksRow.holds Try.pinned (OpenSpec.ofChange mirrorAsksSpec)

/-- ITS FALSE NEIGHBOUR: 'it returns false'. Refute it at one input. -/
def mirrorAsksWrong : ChangeSpec := { name := "mirrorAsks", fn := fun _ => fun
  | [d1, d2, d3, d4] => { results := [.lit (.bool false)], args := [d1, d2, d3, d4] }
  | _ => none }
def MirrorAsksWrongFalsely : Prop := mirrorAsksRow.holds Try.pinned (OpenSpec.ofChange mirrorAsksWrong)

/-- 'seawalllaw18.MirrorNil': WHATEVER THE INPUT: true; the input reads as it did. -/
def mirrorNilSpec : ChangeSpec := { name := "mirrorNil", fn := fun _ => fun
  | [d1, d2] => { results := [.lit (.bool true)], args := [d1, d2] }
  | _ => none }
def mirrorNilRow : OpenClaim := { program := "ytiilondhppipnaa", sum := "2ced9deb0449c83b433d35dadbe5e2408d59f072a1aac839d191b3ba1a06551c", func := "seawall/seawalllaw18.MirrorNil", spec := "mirrorNil", recurses := true, apart := false }
def MirrorNilSaid : Prop := mirrorNilRow.holds Try.pinned (OpenSpec.ofChange mirrorNilSpec)

/-- ITS FALSE NEIGHBOUR: 'it returns false'. Refute it at one input. -/
def mirrorNilWrong : ChangeSpec := { name := "mirrorNil", fn := fun _ => fun
  | [d1, d2] => { results := [.lit (.bool false)], args := [d1, d2] }
  | _ => none }
def MirrorNilWrongFalsely : Prop := mirrorNilRow.holds Try.pinned (OpenSpec.ofChange mirrorNilWrong)

/- THE SECOND FORM. 'bulk': how many values and letters a reading holds, each counted each time it is reached (what is shared counts as often as it is met; a slice's spare places count too). A statement '..UptoSaid' is the law's where the arguments, and the package variables that the reading takes, are together of bulk at most 1048576: NARROWER than '..Said'. Prove '..Said' where nothing that the law and all that it calls make is longer than what came in: it says more and counts as full. Else prove '..UptoSaid'. A law counts once. -/
mutual
def uptoBulk {H : Type} : DataW H → Nat
  | .lit (.string bytes) => bytes.length + 1
  | .lit _ => 1
  | .nil => 1
  | .ptr d => uptoBulk d + 1
  | .slice elems spare => uptoBulkAll elems + uptoBulkAll spare + 1
  | .agg parts => uptoBulkAll parts + 1
  | .iface _ d => uptoBulk d + 1
  | .map entries => uptoBulkEntries entries + 1
  | .held _ => 1
def uptoBulkAll {H : Type} : List (DataW H) → Nat
  | [] => 0
  | d :: r => uptoBulk d + uptoBulkAll r
def uptoBulkEntries {H : Type} : List (Lit × DataW H) → Nat
  | [] => 0
  | x :: r => uptoBulkEntry x + uptoBulkEntries r
def uptoBulkEntry {H : Type} : Lit × DataW H → Nat
  | (.string bytes, d) => bytes.length + uptoBulk d + 1
  | (_, d) => uptoBulk d + 1
 end
def uptoSmall : (H : Type) → List (DataW H) → Bool := fun _ ds => decide (uptoBulkAll ds ≤ 1048576)
def OpenSpec.upto (s : _root_.Go.ChangeSpec) : _root_.Go.OpenSpec := { _root_.Go.OpenSpec.ofChange s with cond := some uptoSmall }

/-- 'seawalllaw18.MirrorSinks', WHERE WHAT IT READS IS OF BULK AT MOST 1048576: true; the input reads as it did. -/
def mirrorSinksUptoRow : OpenClaim := { program := "ytiilondhppipnaa", sum := "2ced9deb0449c83b433d35dadbe5e2408d59f072a1aac839d191b3ba1a06551c", func := "seawall/seawalllaw18.MirrorSinks", spec := "mirrorSinks", recurses := true, apart := false, narrowed := true }
def MirrorSinksUptoSaid : Prop := mirrorSinksUptoRow.holds Try.pinned (OpenSpec.upto mirrorSinksSpec)

/-- 'seawalllaw18.MirrorCuts', WHERE WHAT IT READS IS OF BULK AT MOST 1048576: true; the input reads as it did. -/
def mirrorCutsUptoRow : OpenClaim := { program := "ytiilondhppipnaa", sum := "2ced9deb0449c83b433d35dadbe5e2408d59f072a1aac839d191b3ba1a06551c", func := "seawall/seawalllaw18.MirrorCuts", spec := "mirrorCuts", recurses := true, apart := false, narrowed := true }
def MirrorCutsUptoSaid : Prop := mirrorCutsUptoRow.holds Try.pinned (OpenSpec.upto mirrorCutsSpec)

/-- 'seawalllaw18.MirrorAll', WHERE WHAT IT READS IS OF BULK AT MOST 1048576: true; the input reads as it did. -/
def mirrorAllUptoRow : OpenClaim := { program := "ytiilondhppipnaa", sum := "2ced9deb0449c83b433d35dadbe5e2408d59f072a1aac839d191b3ba1a06551c", func := "seawall/seawalllaw18.MirrorAll", spec := "mirrorAll", recurses := true, apart := false, narrowed := true }
def MirrorAllUptoSaid : Prop := mirrorAllUptoRow.holds Try.pinned (OpenSpec.upto mirrorAllSpec)

/-- 'seawalllaw18.MirrorApart', WHERE WHAT IT READS IS OF BULK AT MOST 1048576: true; the input reads as it did. -/
def mirrorApartUptoRow : OpenClaim := { program := "ytiilondhppipnaa", sum := "2ced9deb0449c83b433d35dadbe5e2408d59f072a1aac839d191b3ba1a06551c", func := "seawall/seawalllaw18.MirrorApart", spec := "mirrorApart", recurses := true, apart := false, narrowed := true }
def MirrorApartUptoSaid : Prop := mirrorApartUptoRow.holds Try.pinned (OpenSpec.upto mirrorApartSpec)

/-- 'seawalllaw18.MirrorSources', WHERE WHAT IT READS IS OF BULK AT MOST 1048576: true; the input reads as it did. -/
def mirrorSourcesUptoRow : OpenClaim := { program := "ytiilondhppipnaa", sum := "2ced9deb0449c83b433d35dadbe5e2408d59f072a1aac839d191b3ba1a06551c", func := "seawall/seawalllaw18.MirrorSources", spec := "mirrorSources", recurses := true, apart := false, narrowed := true }
def MirrorSourcesUptoSaid : Prop := mirrorSourcesUptoRow.holds Try.pinned (OpenSpec.upto mirrorSourcesSpec)

/-- 'seawalllaw18.MirrorAsks', WHERE WHAT IT READS IS OF BULK AT MOST 1048576: true; the input reads as it did. -/
def mirrorAsksUptoRow : OpenClaim := { program := "ytiilondhppipnaa", sum := "2ced9deb0449c83b433d35dadbe5e2408d59f072a1aac839d191b3ba1a06551c", func := "seawall/seawalllaw18.MirrorAsks", spec := "mirrorAsks", recurses := true, apart := false, narrowed := true }
def MirrorAsksUptoSaid : Prop := mirrorAsksUptoRow.holds Try.pinned (OpenSpec.upto mirrorAsksSpec)

/-- 'seawalllaw18.MirrorNil', WHERE WHAT IT READS IS OF BULK AT MOST 1048576: true; the input reads as it did. -/
def mirrorNilUptoRow : OpenClaim := { program := "ytiilondhppipnaa", sum := "2ced9deb0449c83b433d35dadbe5e2408d59f072a1aac839d191b3ba1a06551c", func := "seawall/seawalllaw18.MirrorNil", spec := "mirrorNil", recurses := true, apart := false, narrowed := true }
def MirrorNilUptoSaid : Prop := mirrorNilUptoRow.holds Try.pinned (OpenSpec.upto mirrorNilSpec)

end Rows
end Go.Proofs.Ytiilondhppipnaa
