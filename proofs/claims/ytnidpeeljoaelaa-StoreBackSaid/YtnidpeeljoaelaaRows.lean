/-
  No cell of these rows narrows 'for every input' (looked for: loops, veiled, ifaces, maps, wideKeys, modest, calm, conditions, laid).
  DERIVED. THE GIVEN ROWS OF THIS SEAT. 3 by the template 'for every input the law returns true; each argument reads behind the call as it read before'; 0 by the template 'total and deterministic' (their statements: YtnidpeeljoaelaaTotals.lean).
  GIVEN WITH THE SEED: the statements are not yours to turn. If you find one false, say at which input.
  Laid BY PROGRAM, IN A SANDBOX (cutbox-rows.mjs): the forced cells as the released guide's own fill.sh prints them over the translation cdaace3b4d0ee085… (all of the seat's roots in one cut). By AI agents, Wed Nov 11 2026. No macro, syntax, notation, axiom, sorry.
-/
import Derived.Test.YtnidpeeljoaelaaChecked
import GoSem.Claim
import GoSem.ClaimJoined
import GoSem.ClaimMapViews
import Derived.JoinedTies
import Derived.KernelRfl
namespace Go.Proofs.Ytnidpeeljoaelaa
/- THE CELL 'sum', in the pinned program and in every row, IS THE sha256 OF THE DUMP (.gsa) THAT YtnidpeeljoaelaaProg.lean LOADS. Nothing in Lean hashes anything: it is a label: what it is worth is what the hold of that sum in a sandbox is worth. -/
noncomputable def Try.pinned : Pinned := { name := "ytnidpeeljoaelaa", sum := "cdaace3b4d0ee0856887fb111d5d07d4bb39698dcb00fe1805b3b4b6083ade82", checked := Try.checked }
namespace Rows
def none {H : Type} : Left H := { results := [], args := [] }

/-- 'seawalllaw05.StoreBatches': WHATEVER THE INPUT: true; the input reads as it did. -/
def storeBatchesSpec : ChangeSpec := { name := "storeBatches", fn := fun _ => fun
  | [d1, d2] => { results := [.lit (.bool true)], args := [d1, d2] }
  | _ => none }
def storeBatchesRow : OpenClaim := { program := "ytnidpeeljoaelaa", sum := "cdaace3b4d0ee0856887fb111d5d07d4bb39698dcb00fe1805b3b4b6083ade82", func := "seawall/seawalllaw05.StoreBatches", spec := "storeBatches", inPlace := ["maps.clone"], unfollowed := true, recurses := true, apart := false }
def StoreBatchesSaid : Prop := storeBatchesRow.holds Try.pinned (OpenSpec.ofChange storeBatchesSpec)

/-- ITS FALSE NEIGHBOUR: 'it returns false'. Refute it at one input. -/
def storeBatchesWrong : ChangeSpec := { name := "storeBatches", fn := fun _ => fun
  | [d1, d2] => { results := [.lit (.bool false)], args := [d1, d2] }
  | _ => none }
def StoreBatchesWrongFalsely : Prop := storeBatchesRow.holds Try.pinned (OpenSpec.ofChange storeBatchesWrong)

/-- 'seawalllaw05.StoreBack': WHATEVER THE INPUT: true; the input reads as it did. -/
def storeBackSpec : ChangeSpec := { name := "storeBack", fn := fun _ => fun
  | [d1, d2, d3] => { results := [.lit (.bool true)], args := [d1, d2, d3] }
  | _ => none }
def storeBackRow : OpenClaim := { program := "ytnidpeeljoaelaa", sum := "cdaace3b4d0ee0856887fb111d5d07d4bb39698dcb00fe1805b3b4b6083ade82", func := "seawall/seawalllaw05.StoreBack", spec := "storeBack", inPlace := ["maps.clone"], unfollowed := true, recurses := true, apart := false }
def StoreBackSaid : Prop := storeBackRow.holds Try.pinned (OpenSpec.ofChange storeBackSpec)

/-- ITS FALSE NEIGHBOUR: 'it returns false'. Refute it at one input. -/
def storeBackWrong : ChangeSpec := { name := "storeBack", fn := fun _ => fun
  | [d1, d2, d3] => { results := [.lit (.bool false)], args := [d1, d2, d3] }
  | _ => none }
def StoreBackWrongFalsely : Prop := storeBackRow.holds Try.pinned (OpenSpec.ofChange storeBackWrong)

/-- 'seawalllaw05.StoreNil': WHATEVER THE INPUT: true; the input reads as it did. -/
def storeNilSpec : ChangeSpec := { name := "storeNil", fn := fun _ => fun
  | [d1, d2] => { results := [.lit (.bool true)], args := [d1, d2] }
  | _ => none }
def storeNilRow : OpenClaim := { program := "ytnidpeeljoaelaa", sum := "cdaace3b4d0ee0856887fb111d5d07d4bb39698dcb00fe1805b3b4b6083ade82", func := "seawall/seawalllaw05.StoreNil", spec := "storeNil", inPlace := ["maps.clone"], unfollowed := true, recurses := true, apart := false }
def StoreNilSaid : Prop := storeNilRow.holds Try.pinned (OpenSpec.ofChange storeNilSpec)

/-- ITS FALSE NEIGHBOUR: 'it returns false'. Refute it at one input. -/
def storeNilWrong : ChangeSpec := { name := "storeNil", fn := fun _ => fun
  | [d1, d2] => { results := [.lit (.bool false)], args := [d1, d2] }
  | _ => none }
def StoreNilWrongFalsely : Prop := storeNilRow.holds Try.pinned (OpenSpec.ofChange storeNilWrong)

/- THE SECOND FORM. 'bulk': how many values and letters a reading holds, each counted each time it is reached (what is shared counts as often as it is met; a slice's spare places count too). A statement '..UptoSaid' is the law's where the arguments, and the package variables that the reading takes, are together of bulk at most 1048576: NARROWER than '..Said'. Prove '..Said' where nothing that the law and all that it calls make is longer than what came in: it says more and counts as full. Else prove '..UptoSaid'. A law counts once. -/
mutual
def uptoBulk {H : Type} : DataW H → Nat
  | .lit (.string bytes) => bytes.length + 1
  | .lit _ => 1
  | .nil => 1
  | .ptr d => uptoBulk d + 1
  | .slice elems spare => uptoBulkAll elems + uptoBulkAll spare + 1
  | .agg parts => uptoBulkAll parts + 1
  | .iface _ d => uptoBulk d + 1
  | .map entries => uptoBulkEntries entries + 1
  | .held _ => 1
def uptoBulkAll {H : Type} : List (DataW H) → Nat
  | [] => 0
  | d :: r => uptoBulk d + uptoBulkAll r
def uptoBulkEntries {H : Type} : List (Lit × DataW H) → Nat
  | [] => 0
  | x :: r => uptoBulkEntry x + uptoBulkEntries r
def uptoBulkEntry {H : Type} : Lit × DataW H → Nat
  | (.string bytes, d) => bytes.length + uptoBulk d + 1
  | (_, d) => uptoBulk d + 1
 end
def uptoSmall : (H : Type) → List (DataW H) → Bool := fun _ ds => decide (uptoBulkAll ds ≤ 1048576)
def OpenSpec.upto (s : _root_.Go.ChangeSpec) : _root_.Go.OpenSpec := { _root_.Go.OpenSpec.ofChange s with cond := some uptoSmall }

/-- 'seawalllaw05.StoreBatches', WHERE WHAT IT READS IS OF BULK AT MOST 1048576: true; the input reads as it did. -/
def storeBatchesUptoRow : OpenClaim := { program := "ytnidpeeljoaelaa", sum := "cdaace3b4d0ee0856887fb111d5d07d4bb39698dcb00fe1805b3b4b6083ade82", func := "seawall/seawalllaw05.StoreBatches", spec := "storeBatches", inPlace := ["maps.clone"], unfollowed := true, recurses := true, apart := false, narrowed := true }
def StoreBatchesUptoSaid : Prop := storeBatchesUptoRow.holds Try.pinned (OpenSpec.upto storeBatchesSpec)

/-- 'seawalllaw05.StoreBack', WHERE WHAT IT READS IS OF BULK AT MOST 1048576: true; the input reads as it did. -/
def storeBackUptoRow : OpenClaim := { program := "ytnidpeeljoaelaa", sum := "cdaace3b4d0ee0856887fb111d5d07d4bb39698dcb00fe1805b3b4b6083ade82", func := "seawall/seawalllaw05.StoreBack", spec := "storeBack", inPlace := ["maps.clone"], unfollowed := true, recurses := true, apart := false, narrowed := true }
def StoreBackUptoSaid : Prop := storeBackUptoRow.holds Try.pinned (OpenSpec.upto storeBackSpec)

/-- 'seawalllaw05.StoreNil', WHERE WHAT IT READS IS OF BULK AT MOST 1048576: true; the input reads as it did. -/
def storeNilUptoRow : OpenClaim := { program := "ytnidpeeljoaelaa", sum := "cdaace3b4d0ee0856887fb111d5d07d4bb39698dcb00fe1805b3b4b6083ade82", func := "seawall/seawalllaw05.StoreNil", spec := "storeNil", inPlace := ["maps.clone"], unfollowed := true, recurses := true, apart := false, narrowed := true }
def StoreNilUptoSaid : Prop := storeNilUptoRow.holds Try.pinned (OpenSpec.upto storeNilSpec)

end Rows
end Go.Proofs.Ytnidpeeljoaelaa
