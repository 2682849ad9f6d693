/-
  No cell of these rows narrows 'for every input' (looked for: loops, veiled, ifaces, maps, wideKeys, modest, calm, conditions, laid).
  DERIVED. THE GIVEN ROWS OF THIS SEAT. 4 by the template 'for every input the law returns true; each argument reads behind the call as it read before'; 0 by the template 'total and deterministic' (their statements: YtnidpeeljoaelaaGreatTotals.lean).
  GIVEN WITH THE SEED: the statements are not yours to turn. If you find one false, say at which input.
  Laid BY PROGRAM, IN A SANDBOX (cutbox-rows.mjs): the forced cells as the released guide's own fill.sh prints them over the translation 89766cf0a55a42a6… (all of the seat's roots in one cut). By AI agents, Wed Nov 11 2026. No macro, syntax, notation, axiom, sorry.
-/
import Derived.Test.YtnidpeeljoaelaaGreatChecked
import GoSem.Claim
import GoSem.ClaimJoined
import GoSem.ClaimMapViews
import Derived.JoinedTies
import Derived.KernelRfl
namespace Go.Proofs.YtnidpeeljoaelaaGreat
/- THE CELL 'sum', in the pinned program and in every row, IS THE sha256 OF THE DUMP (.gsa) THAT YtnidpeeljoaelaaGreatProg.lean LOADS. Nothing in Lean hashes anything: it is a label: what it is worth is what the hold of that sum in a sandbox is worth. -/
noncomputable def Tryz.pinned : Pinned := { name := "ytnidpeeljoaelaagreat", sum := "89766cf0a55a42a698ad5f879f172fe9d6b4a6ce671876fd8e06e001686f42e9", checked := Tryz.checked }
namespace Rows
def none {H : Type} : Left H := { results := [], args := [] }

/-- 'seawalllaw05.StoreOrder': WHATEVER THE INPUT: true; the input reads as it did. -/
def storeOrderSpec : ChangeSpec := { name := "storeOrder", fn := fun _ => fun
  | [d1, d2] => { results := [.lit (.bool true)], args := [d1, d2] }
  | _ => none }
def storeOrderRow : OpenClaim := { program := "ytnidpeeljoaelaagreat", sum := "89766cf0a55a42a698ad5f879f172fe9d6b4a6ce671876fd8e06e001686f42e9", func := "seawall/seawalllaw05.StoreOrder", spec := "storeOrder", inPlace := ["maps.clone"], unfollowed := true, recurses := true, apart := false }
def StoreOrderSaid : Prop := storeOrderRow.holds Tryz.pinned (OpenSpec.ofChange storeOrderSpec)

/-- ITS FALSE NEIGHBOUR: 'it returns false'. Refute it at one input. -/
def storeOrderWrong : ChangeSpec := { name := "storeOrder", fn := fun _ => fun
  | [d1, d2] => { results := [.lit (.bool false)], args := [d1, d2] }
  | _ => none }
def StoreOrderWrongFalsely : Prop := storeOrderRow.holds Tryz.pinned (OpenSpec.ofChange storeOrderWrong)

/-- 'seawalllaw05.StorePlays': WHATEVER THE INPUT: true; the input reads as it did. -/
def storePlaysSpec : ChangeSpec := { name := "storePlays", fn := fun _ => fun
  | [d1, d2, d3] => { results := [.lit (.bool true)], args := [d1, d2, d3] }
  | _ => none }
def storePlaysRow : OpenClaim := { program := "ytnidpeeljoaelaagreat", sum := "89766cf0a55a42a698ad5f879f172fe9d6b4a6ce671876fd8e06e001686f42e9", func := "seawall/seawalllaw05.StorePlays", spec := "storePlays", inPlace := ["maps.clone"], unfollowed := true, recurses := true, apart := false }
def StorePlaysSaid : Prop := storePlaysRow.holds Tryz.pinned (OpenSpec.ofChange storePlaysSpec)

/-- ITS FALSE NEIGHBOUR: 'it returns false'. Refute it at one input. -/
def storePlaysWrong : ChangeSpec := { name := "storePlays", fn := fun _ => fun
  | [d1, d2, d3] => { results := [.lit (.bool false)], args := [d1, d2, d3] }
  | _ => none }
def StorePlaysWrongFalsely : Prop := storePlaysRow.holds Tryz.pinned (OpenSpec.ofChange storePlaysWrong)

/-- 'seawalllaw05.StoreWhole': WHATEVER THE INPUT: true; the input reads as it did. -/
def storeWholeSpec : ChangeSpec := { name := "storeWhole", fn := fun _ => fun
  | [d1, d2, d3, d4] => { results := [.lit (.bool true)], args := [d1, d2, d3, d4] }
  | _ => none }
def storeWholeRow : OpenClaim := { program := "ytnidpeeljoaelaagreat", sum := "89766cf0a55a42a698ad5f879f172fe9d6b4a6ce671876fd8e06e001686f42e9", func := "seawall/seawalllaw05.StoreWhole", spec := "storeWhole", inPlace := ["maps.clone"], unfollowed := true, recurses := true, apart := false }
def StoreWholeSaid : Prop := storeWholeRow.holds Tryz.pinned (OpenSpec.ofChange storeWholeSpec)

/-- ITS FALSE NEIGHBOUR: 'it returns false'. Refute it at one input. -/
def storeWholeWrong : ChangeSpec := { name := "storeWhole", fn := fun _ => fun
  | [d1, d2, d3, d4] => { results := [.lit (.bool false)], args := [d1, d2, d3, d4] }
  | _ => none }
def StoreWholeWrongFalsely : Prop := storeWholeRow.holds Tryz.pinned (OpenSpec.ofChange storeWholeWrong)

/-- 'seawalllaw05.StoreChecks': WHATEVER THE INPUT: true; the input reads as it did. -/
def storeChecksSpec : ChangeSpec := { name := "storeChecks", fn := fun _ => fun
  | [d] => { results := [.lit (.bool true)], args := [d] }
  | _ => none }
def storeChecksRow : OpenClaim := { program := "ytnidpeeljoaelaagreat", sum := "89766cf0a55a42a698ad5f879f172fe9d6b4a6ce671876fd8e06e001686f42e9", func := "seawall/seawalllaw05.StoreChecks", spec := "storeChecks", inPlace := ["maps.clone"], unfollowed := true, recurses := true, apart := false }
def StoreChecksSaid : Prop := storeChecksRow.holds Tryz.pinned (OpenSpec.ofChange storeChecksSpec)

/-- ITS FALSE NEIGHBOUR: 'it returns false'. Refute it at one input. -/
def storeChecksWrong : ChangeSpec := { name := "storeChecks", fn := fun _ => fun
  | [d] => { results := [.lit (.bool false)], args := [d] }
  | _ => none }
def StoreChecksWrongFalsely : Prop := storeChecksRow.holds Tryz.pinned (OpenSpec.ofChange storeChecksWrong)

/- THE SECOND FORM. 'bulk': how many values and letters a reading holds, each counted each time it is reached (what is shared counts as often as it is met; a slice's spare places count too). A statement '..UptoSaid' is the law's where the arguments, and the package variables that the reading takes, are together of bulk at most 1048576: NARROWER than '..Said'. Prove '..Said' where nothing that the law and all that it calls make is longer than what came in: it says more and counts as full. Else prove '..UptoSaid'. A law counts once. -/
mutual
def uptoBulk {H : Type} : DataW H → Nat
  | .lit (.string bytes) => bytes.length + 1
  | .lit _ => 1
  | .nil => 1
  | .ptr d => uptoBulk d + 1
  | .slice elems spare => uptoBulkAll elems + uptoBulkAll spare + 1
  | .agg parts => uptoBulkAll parts + 1
  | .iface _ d => uptoBulk d + 1
  | .map entries => uptoBulkEntries entries + 1
  | .held _ => 1
def uptoBulkAll {H : Type} : List (DataW H) → Nat
  | [] => 0
  | d :: r => uptoBulk d + uptoBulkAll r
def uptoBulkEntries {H : Type} : List (Lit × DataW H) → Nat
  | [] => 0
  | x :: r => uptoBulkEntry x + uptoBulkEntries r
def uptoBulkEntry {H : Type} : Lit × DataW H → Nat
  | (.string bytes, d) => bytes.length + uptoBulk d + 1
  | (_, d) => uptoBulk d + 1
 end
def uptoSmall : (H : Type) → List (DataW H) → Bool := fun _ ds => decide (uptoBulkAll ds ≤ 1048576)
def OpenSpec.upto (s : _root_.Go.ChangeSpec) : _root_.Go.OpenSpec := { _root_.Go.OpenSpec.ofChange s with cond := some uptoSmall }

/-- 'seawalllaw05.StoreOrder', WHERE WHAT IT READS IS OF BULK AT MOST 1048576: true; the input reads as it did. -/
def storeOrderUptoRow : OpenClaim := { program := "ytnidpeeljoaelaagreat", sum := "89766cf0a55a42a698ad5f879f172fe9d6b4a6ce671876fd8e06e001686f42e9", func := "seawall/seawalllaw05.StoreOrder", spec := "storeOrder", inPlace := ["maps.clone"], unfollowed := true, recurses := true, apart := false, narrowed := true }
def StoreOrderUptoSaid : Prop := storeOrderUptoRow.holds Tryz.pinned (OpenSpec.upto storeOrderSpec)

/-- 'seawalllaw05.StorePlays', WHERE WHAT IT READS IS OF BULK AT MOST 1048576: true; the input reads as it did. -/
def storePlaysUptoRow : OpenClaim := { program := "ytnidpeeljoaelaagreat", sum := "89766cf0a55a42a698ad5f879f172fe9d6b4a6ce671876fd8e06e001686f42e9", func := "seawall/seawalllaw05.StorePlays", spec := "storePlays", inPlace := ["maps.clone"], unfollowed := true, recurses := true, apart := false, narrowed := true }
def StorePlaysUptoSaid : Prop := storePlaysUptoRow.holds Tryz.pinned (OpenSpec.upto storePlaysSpec)

/-- 'seawalllaw05.StoreWhole', WHERE WHAT IT READS IS OF BULK AT MOST 1048576: true; the input reads as it did. -/
def storeWholeUptoRow : OpenClaim := { program := "ytnidpeeljoaelaagreat", sum := "89766cf0a55a42a698ad5f879f172fe9d6b4a6ce671876fd8e06e001686f42e9", func := "seawall/seawalllaw05.StoreWhole", spec := "storeWhole", inPlace := ["maps.clone"], unfollowed := true, recurses := true, apart := false, narrowed := true }
def StoreWholeUptoSaid : Prop := storeWholeUptoRow.holds Tryz.pinned (OpenSpec.upto storeWholeSpec)

/-- 'seawalllaw05.StoreChecks', WHERE WHAT IT READS IS OF BULK AT MOST 1048576: true; the input reads as it did. -/
def storeChecksUptoRow : OpenClaim := { program := "ytnidpeeljoaelaagreat", sum := "89766cf0a55a42a698ad5f879f172fe9d6b4a6ce671876fd8e06e001686f42e9", func := "seawall/seawalllaw05.StoreChecks", spec := "storeChecks", inPlace := ["maps.clone"], unfollowed := true, recurses := true, apart := false, narrowed := true }
def StoreChecksUptoSaid : Prop := storeChecksUptoRow.holds Tryz.pinned (OpenSpec.upto storeChecksSpec)

end Rows
end Go.Proofs.YtnidpeeljoaelaaGreat
