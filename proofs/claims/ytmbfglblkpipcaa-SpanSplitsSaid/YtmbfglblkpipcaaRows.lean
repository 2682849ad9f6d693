/-
  No cell of these rows narrows 'for every input' (looked for: loops, veiled, ifaces, maps, wideKeys, modest, calm, conditions, laid).
  DERIVED. THE GIVEN ROWS OF THIS SEAT. 6 by the template 'for every input the law returns true; each argument reads behind the call as it read before'; 0 by the template 'total and deterministic' (their statements: YtmbfglblkpipcaaTotals.lean).
  GIVEN WITH THE SEED: the statements are not yours to turn. If you find one false, say at which input.
  Laid BY PROGRAM, IN A SANDBOX (cutbox-rows.mjs): the forced cells as the released guide's own fill.sh prints them over the translation eebb8405e1541235… (all of the seat's roots in one cut). By AI agents, Wed Nov 11 2026. No macro, syntax, notation, axiom, sorry.
-/
import Derived.Test.YtmbfglblkpipcaaChecked
import GoSem.Claim
import GoSem.ClaimJoined
import GoSem.ClaimMapViews
import Derived.JoinedTies
import Derived.KernelRfl
namespace Go.Proofs.Ytmbfglblkpipcaa
/- THE CELL 'sum', in the pinned program and in every row, IS THE sha256 OF THE DUMP (.gsa) THAT YtmbfglblkpipcaaProg.lean LOADS. Nothing in Lean hashes anything: it is a label: what it is worth is what the hold of that sum in a sandbox is worth. -/
noncomputable def Try.pinned : Pinned := { name := "ytmbfglblkpipcaa", sum := "eebb8405e1541235f5ebba21e54ebf72080be9a10442bb145e3d744a6997c20b", checked := Try.checked }
namespace Rows
def none {H : Type} : Left H := { results := [], args := [] }

/-- 'seawalllaw17.SpanEven': WHATEVER THE INPUT: true; the input reads as it did. -/
def spanEvenSpec : ChangeSpec := { name := "spanEven", fn := fun _ => fun
  | [d1, d2, d3] => { results := [.lit (.bool true)], args := [d1, d2, d3] }
  | _ => none }
def spanEvenRow : OpenClaim := { program := "ytmbfglblkpipcaa", sum := "eebb8405e1541235f5ebba21e54ebf72080be9a10442bb145e3d744a6997c20b", func := "seawall/seawalllaw17.SpanEven", spec := "spanEven", named := ["math/bits.divideError", "math/bits.overflowError"], apart := false }
def SpanEvenSaid : Prop := spanEvenRow.holds Try.pinned (OpenSpec.ofChange spanEvenSpec)

/-- ITS FALSE NEIGHBOUR: 'it returns false'. Refute it at one input. -/
def spanEvenWrong : ChangeSpec := { name := "spanEven", fn := fun _ => fun
  | [d1, d2, d3] => { results := [.lit (.bool false)], args := [d1, d2, d3] }
  | _ => none }
def SpanEvenWrongFalsely : Prop := spanEvenRow.holds Try.pinned (OpenSpec.ofChange spanEvenWrong)

/-- 'seawalllaw17.SpanPlaces': WHATEVER THE INPUT: true; the input reads as it did. -/
def spanPlacesSpec : ChangeSpec := { name := "spanPlaces", fn := fun _ => fun
  | [d1, d2, d3, d4] => { results := [.lit (.bool true)], args := [d1, d2, d3, d4] }
  | _ => none }
def spanPlacesRow : OpenClaim := { program := "ytmbfglblkpipcaa", sum := "eebb8405e1541235f5ebba21e54ebf72080be9a10442bb145e3d744a6997c20b", func := "seawall/seawalllaw17.SpanPlaces", spec := "spanPlaces", named := ["math/bits.divideError", "math/bits.overflowError"], apart := false }
def SpanPlacesSaid : Prop := spanPlacesRow.holds Try.pinned (OpenSpec.ofChange spanPlacesSpec)

/-- ITS FALSE NEIGHBOUR: 'it returns false'. Refute it at one input. -/
def spanPlacesWrong : ChangeSpec := { name := "spanPlaces", fn := fun _ => fun
  | [d1, d2, d3, d4] => { results := [.lit (.bool false)], args := [d1, d2, d3, d4] }
  | _ => none }
def SpanPlacesWrongFalsely : Prop := spanPlacesRow.holds Try.pinned (OpenSpec.ofChange spanPlacesWrong)

/-- 'seawalllaw17.SpanBack': WHATEVER THE INPUT: true; the input reads as it did. -/
def spanBackSpec : ChangeSpec := { name := "spanBack", fn := fun _ => fun
  | [d1, d2, d3] => { results := [.lit (.bool true)], args := [d1, d2, d3] }
  | _ => none }
def spanBackRow : OpenClaim := { program := "ytmbfglblkpipcaa", sum := "eebb8405e1541235f5ebba21e54ebf72080be9a10442bb145e3d744a6997c20b", func := "seawall/seawalllaw17.SpanBack", spec := "spanBack", named := ["math/bits.divideError", "math/bits.overflowError"], apart := false }
def SpanBackSaid : Prop := spanBackRow.holds Try.pinned (OpenSpec.ofChange spanBackSpec)

/-- ITS FALSE NEIGHBOUR: 'it returns false'. Refute it at one input. -/
def spanBackWrong : ChangeSpec := { name := "spanBack", fn := fun _ => fun
  | [d1, d2, d3] => { results := [.lit (.bool false)], args := [d1, d2, d3] }
  | _ => none }
def SpanBackWrongFalsely : Prop := spanBackRow.holds Try.pinned (OpenSpec.ofChange spanBackWrong)

/-- 'seawalllaw17.SpanCovers': WHATEVER THE INPUT: true; the input reads as it did. -/
def spanCoversSpec : ChangeSpec := { name := "spanCovers", fn := fun _ => fun
  | [d1, d2, d3] => { results := [.lit (.bool true)], args := [d1, d2, d3] }
  | _ => none }
def spanCoversRow : OpenClaim := { program := "ytmbfglblkpipcaa", sum := "eebb8405e1541235f5ebba21e54ebf72080be9a10442bb145e3d744a6997c20b", func := "seawall/seawalllaw17.SpanCovers", spec := "spanCovers", named := ["math/bits.divideError", "math/bits.overflowError"], apart := false }
def SpanCoversSaid : Prop := spanCoversRow.holds Try.pinned (OpenSpec.ofChange spanCoversSpec)

/-- ITS FALSE NEIGHBOUR: 'it returns false'. Refute it at one input. -/
def spanCoversWrong : ChangeSpec := { name := "spanCovers", fn := fun _ => fun
  | [d1, d2, d3] => { results := [.lit (.bool false)], args := [d1, d2, d3] }
  | _ => none }
def SpanCoversWrongFalsely : Prop := spanCoversRow.holds Try.pinned (OpenSpec.ofChange spanCoversWrong)

/-- 'seawalllaw17.SpanSplits': WHATEVER THE INPUT: true; the input reads as it did. -/
def spanSplitsSpec : ChangeSpec := { name := "spanSplits", fn := fun _ => fun
  | [d1, d2, d3] => { results := [.lit (.bool true)], args := [d1, d2, d3] }
  | _ => none }
def spanSplitsRow : OpenClaim := { program := "ytmbfglblkpipcaa", sum := "eebb8405e1541235f5ebba21e54ebf72080be9a10442bb145e3d744a6997c20b", func := "seawall/seawalllaw17.SpanSplits", spec := "spanSplits", recurses := true, named := ["math/bits.divideError", "math/bits.overflowError"], apart := false }
def SpanSplitsSaid : Prop := spanSplitsRow.holds Try.pinned (OpenSpec.ofChange spanSplitsSpec)

/-- ITS FALSE NEIGHBOUR: 'it returns false'. Refute it at one input. -/
def spanSplitsWrong : ChangeSpec := { name := "spanSplits", fn := fun _ => fun
  | [d1, d2, d3] => { results := [.lit (.bool false)], args := [d1, d2, d3] }
  | _ => none }
def SpanSplitsWrongFalsely : Prop := spanSplitsRow.holds Try.pinned (OpenSpec.ofChange spanSplitsWrong)

/-- 'seawalllaw17.SpanFewest': WHATEVER THE INPUT: true; the input reads as it did. -/
def spanFewestSpec : ChangeSpec := { name := "spanFewest", fn := fun _ => fun
  | [d1, d2, d3] => { results := [.lit (.bool true)], args := [d1, d2, d3] }
  | _ => none }
def spanFewestRow : OpenClaim := { program := "ytmbfglblkpipcaa", sum := "eebb8405e1541235f5ebba21e54ebf72080be9a10442bb145e3d744a6997c20b", func := "seawall/seawalllaw17.SpanFewest", spec := "spanFewest", recurses := true, named := ["math/bits.divideError", "math/bits.overflowError"], apart := false }
def SpanFewestSaid : Prop := spanFewestRow.holds Try.pinned (OpenSpec.ofChange spanFewestSpec)

/-- ITS FALSE NEIGHBOUR: 'it returns false'. Refute it at one input. -/
def spanFewestWrong : ChangeSpec := { name := "spanFewest", fn := fun _ => fun
  | [d1, d2, d3] => { results := [.lit (.bool false)], args := [d1, d2, d3] }
  | _ => none }
def SpanFewestWrongFalsely : Prop := spanFewestRow.holds Try.pinned (OpenSpec.ofChange spanFewestWrong)

/- THE SECOND FORM. 'bulk': how many values and letters a reading holds, each counted each time it is reached (what is shared counts as often as it is met; a slice's spare places count too). A statement '..UptoSaid' is the law's where the arguments, and the package variables that the reading takes, are together of bulk at most 1048576: NARROWER than '..Said'. Prove '..Said' where nothing that the law and all that it calls make is longer than what came in: it says more and counts as full. Else prove '..UptoSaid'. A law counts once. -/
mutual
def uptoBulk {H : Type} : DataW H → Nat
  | .lit (.string bytes) => bytes.length + 1
  | .lit _ => 1
  | .nil => 1
  | .ptr d => uptoBulk d + 1
  | .slice elems spare => uptoBulkAll elems + uptoBulkAll spare + 1
  | .agg parts => uptoBulkAll parts + 1
  | .iface _ d => uptoBulk d + 1
  | .map entries => uptoBulkEntries entries + 1
  | .held _ => 1
def uptoBulkAll {H : Type} : List (DataW H) → Nat
  | [] => 0
  | d :: r => uptoBulk d + uptoBulkAll r
def uptoBulkEntries {H : Type} : List (Lit × DataW H) → Nat
  | [] => 0
  | x :: r => uptoBulkEntry x + uptoBulkEntries r
def uptoBulkEntry {H : Type} : Lit × DataW H → Nat
  | (.string bytes, d) => bytes.length + uptoBulk d + 1
  | (_, d) => uptoBulk d + 1
 end
def uptoSmall : (H : Type) → List (DataW H) → Bool := fun _ ds => decide (uptoBulkAll ds ≤ 1048576)
def OpenSpec.upto (s : _root_.Go.ChangeSpec) : _root_.Go.OpenSpec := { _root_.Go.OpenSpec.ofChange s with cond := some uptoSmall }

/-- 'seawalllaw17.SpanEven', WHERE WHAT IT READS IS OF BULK AT MOST 1048576: true; the input reads as it did. -/
def spanEvenUptoRow : OpenClaim := { program := "ytmbfglblkpipcaa", sum := "eebb8405e1541235f5ebba21e54ebf72080be9a10442bb145e3d744a6997c20b", func := "seawall/seawalllaw17.SpanEven", spec := "spanEven", named := ["math/bits.divideError", "math/bits.overflowError"], apart := false, narrowed := true }
def SpanEvenUptoSaid : Prop := spanEvenUptoRow.holds Try.pinned (OpenSpec.upto spanEvenSpec)

/-- 'seawalllaw17.SpanPlaces', WHERE WHAT IT READS IS OF BULK AT MOST 1048576: true; the input reads as it did. -/
def spanPlacesUptoRow : OpenClaim := { program := "ytmbfglblkpipcaa", sum := "eebb8405e1541235f5ebba21e54ebf72080be9a10442bb145e3d744a6997c20b", func := "seawall/seawalllaw17.SpanPlaces", spec := "spanPlaces", named := ["math/bits.divideError", "math/bits.overflowError"], apart := false, narrowed := true }
def SpanPlacesUptoSaid : Prop := spanPlacesUptoRow.holds Try.pinned (OpenSpec.upto spanPlacesSpec)

/-- 'seawalllaw17.SpanBack', WHERE WHAT IT READS IS OF BULK AT MOST 1048576: true; the input reads as it did. -/
def spanBackUptoRow : OpenClaim := { program := "ytmbfglblkpipcaa", sum := "eebb8405e1541235f5ebba21e54ebf72080be9a10442bb145e3d744a6997c20b", func := "seawall/seawalllaw17.SpanBack", spec := "spanBack", named := ["math/bits.divideError", "math/bits.overflowError"], apart := false, narrowed := true }
def SpanBackUptoSaid : Prop := spanBackUptoRow.holds Try.pinned (OpenSpec.upto spanBackSpec)

/-- 'seawalllaw17.SpanCovers', WHERE WHAT IT READS IS OF BULK AT MOST 1048576: true; the input reads as it did. -/
def spanCoversUptoRow : OpenClaim := { program := "ytmbfglblkpipcaa", sum := "eebb8405e1541235f5ebba21e54ebf72080be9a10442bb145e3d744a6997c20b", func := "seawall/seawalllaw17.SpanCovers", spec := "spanCovers", named := ["math/bits.divideError", "math/bits.overflowError"], apart := false, narrowed := true }
def SpanCoversUptoSaid : Prop := spanCoversUptoRow.holds Try.pinned (OpenSpec.upto spanCoversSpec)

/-- 'seawalllaw17.SpanSplits', WHERE WHAT IT READS IS OF BULK AT MOST 1048576: true; the input reads as it did. -/
def spanSplitsUptoRow : OpenClaim := { program := "ytmbfglblkpipcaa", sum := "eebb8405e1541235f5ebba21e54ebf72080be9a10442bb145e3d744a6997c20b", func := "seawall/seawalllaw17.SpanSplits", spec := "spanSplits", recurses := true, named := ["math/bits.divideError", "math/bits.overflowError"], apart := false, narrowed := true }
def SpanSplitsUptoSaid : Prop := spanSplitsUptoRow.holds Try.pinned (OpenSpec.upto spanSplitsSpec)

/-- 'seawalllaw17.SpanFewest', WHERE WHAT IT READS IS OF BULK AT MOST 1048576: true; the input reads as it did. -/
def spanFewestUptoRow : OpenClaim := { program := "ytmbfglblkpipcaa", sum := "eebb8405e1541235f5ebba21e54ebf72080be9a10442bb145e3d744a6997c20b", func := "seawall/seawalllaw17.SpanFewest", spec := "spanFewest", recurses := true, named := ["math/bits.divideError", "math/bits.overflowError"], apart := false, narrowed := true }
def SpanFewestUptoSaid : Prop := spanFewestUptoRow.holds Try.pinned (OpenSpec.upto spanFewestSpec)

end Rows
end Go.Proofs.Ytmbfglblkpipcaa
