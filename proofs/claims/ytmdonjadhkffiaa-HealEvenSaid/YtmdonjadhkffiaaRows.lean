/-
  No cell of these rows narrows 'for every input' (looked for: loops, veiled, ifaces, maps, wideKeys, modest, calm, conditions, laid).
  DERIVED. THE GIVEN ROWS OF THIS SEAT. 7 by the template 'for every input the law returns true; each argument reads behind the call as it read before'; 0 by the template 'total and deterministic' (their statements: YtmdonjadhkffiaaTotals.lean).
  GIVEN WITH THE SEED: the statements are not yours to turn. If you find one false, say at which input.
  Laid BY PROGRAM, IN A SANDBOX (cutbox-rows.mjs): the forced cells as the released guide's own fill.sh prints them over the translation eb3106baf3b16b73… (all of the seat's roots in one cut). By AI agents, Wed Nov 11 2026. No macro, syntax, notation, axiom, sorry.
-/
import Derived.Test.YtmdonjadhkffiaaChecked
import GoSem.Claim
import GoSem.ClaimJoined
import GoSem.ClaimMapViews
import Derived.JoinedTies
import Derived.KernelRfl
namespace Go.Proofs.Ytmdonjadhkffiaa
/- THE CELL 'sum', in the pinned program and in every row, IS THE sha256 OF THE DUMP (.gsa) THAT YtmdonjadhkffiaaProg.lean LOADS. Nothing in Lean hashes anything: it is a label: what it is worth is what the hold of that sum in a sandbox is worth. -/
noncomputable def Try.pinned : Pinned := { name := "ytmdonjadhkffiaa", sum := "eb3106baf3b16b739b3d5932873c83952c7d4da58ff256eec168dadf56eb1fb1", checked := Try.checked }
namespace Rows
def none {H : Type} : Left H := { results := [], args := [] }

/-- 'seawalllaw16.HealPlans': WHATEVER THE INPUT: true; the input reads as it did. -/
def healPlansSpec : ChangeSpec := { name := "healPlans", fn := fun _ => fun
  | [d1, d2, d3, d4] => { results := [.lit (.bool true)], args := [d1, d2, d3, d4] }
  | _ => none }
def healPlansRow : OpenClaim := { program := "ytmdonjadhkffiaa", sum := "eb3106baf3b16b739b3d5932873c83952c7d4da58ff256eec168dadf56eb1fb1", func := "seawall/seawalllaw16.HealPlans", spec := "healPlans", unfollowed := true, recurses := true, apart := false }
def HealPlansSaid : Prop := healPlansRow.holds Try.pinned (OpenSpec.ofChange healPlansSpec)

/-- ITS FALSE NEIGHBOUR: 'it returns false'. Refute it at one input. -/
def healPlansWrong : ChangeSpec := { name := "healPlans", fn := fun _ => fun
  | [d1, d2, d3, d4] => { results := [.lit (.bool false)], args := [d1, d2, d3, d4] }
  | _ => none }
def HealPlansWrongFalsely : Prop := healPlansRow.holds Try.pinned (OpenSpec.ofChange healPlansWrong)

/-- 'seawalllaw16.HealApplies': WHATEVER THE INPUT: true; the input reads as it did. -/
def healAppliesSpec : ChangeSpec := { name := "healApplies", fn := fun _ => fun
  | [d1, d2] => { results := [.lit (.bool true)], args := [d1, d2] }
  | _ => none }
def healAppliesRow : OpenClaim := { program := "ytmdonjadhkffiaa", sum := "eb3106baf3b16b739b3d5932873c83952c7d4da58ff256eec168dadf56eb1fb1", func := "seawall/seawalllaw16.HealApplies", spec := "healApplies", unfollowed := true, recurses := true, apart := false }
def HealAppliesSaid : Prop := healAppliesRow.holds Try.pinned (OpenSpec.ofChange healAppliesSpec)

/-- ITS FALSE NEIGHBOUR: 'it returns false'. Refute it at one input. -/
def healAppliesWrong : ChangeSpec := { name := "healApplies", fn := fun _ => fun
  | [d1, d2] => { results := [.lit (.bool false)], args := [d1, d2] }
  | _ => none }
def HealAppliesWrongFalsely : Prop := healAppliesRow.holds Try.pinned (OpenSpec.ofChange healAppliesWrong)

/-- 'seawalllaw16.HealMends': WHATEVER THE INPUT: true; the input reads as it did. -/
def healMendsSpec : ChangeSpec := { name := "healMends", fn := fun _ => fun
  | [d1, d2, d3, d4] => { results := [.lit (.bool true)], args := [d1, d2, d3, d4] }
  | _ => none }
def healMendsRow : OpenClaim := { program := "ytmdonjadhkffiaa", sum := "eb3106baf3b16b739b3d5932873c83952c7d4da58ff256eec168dadf56eb1fb1", func := "seawall/seawalllaw16.HealMends", spec := "healMends", unfollowed := true, recurses := true, apart := false }
def HealMendsSaid : Prop := healMendsRow.holds Try.pinned (OpenSpec.ofChange healMendsSpec)

/-- ITS FALSE NEIGHBOUR: 'it returns false'. Refute it at one input. -/
def healMendsWrong : ChangeSpec := { name := "healMends", fn := fun _ => fun
  | [d1, d2, d3, d4] => { results := [.lit (.bool false)], args := [d1, d2, d3, d4] }
  | _ => none }
def HealMendsWrongFalsely : Prop := healMendsRow.holds Try.pinned (OpenSpec.ofChange healMendsWrong)

/-- 'seawalllaw16.HealSpreads': WHATEVER THE INPUT: true; the input reads as it did. -/
def healSpreadsSpec : ChangeSpec := { name := "healSpreads", fn := fun _ => fun
  | [d1, d2, d3, d4] => { results := [.lit (.bool true)], args := [d1, d2, d3, d4] }
  | _ => none }
def healSpreadsRow : OpenClaim := { program := "ytmdonjadhkffiaa", sum := "eb3106baf3b16b739b3d5932873c83952c7d4da58ff256eec168dadf56eb1fb1", func := "seawall/seawalllaw16.HealSpreads", spec := "healSpreads", unfollowed := true, recurses := true, apart := false }
def HealSpreadsSaid : Prop := healSpreadsRow.holds Try.pinned (OpenSpec.ofChange healSpreadsSpec)

/-- ITS FALSE NEIGHBOUR: 'it returns false'. Refute it at one input. -/
def healSpreadsWrong : ChangeSpec := { name := "healSpreads", fn := fun _ => fun
  | [d1, d2, d3, d4] => { results := [.lit (.bool false)], args := [d1, d2, d3, d4] }
  | _ => none }
def HealSpreadsWrongFalsely : Prop := healSpreadsRow.holds Try.pinned (OpenSpec.ofChange healSpreadsWrong)

/-- 'seawalllaw16.HealDrops': WHATEVER THE INPUT: true; the input reads as it did. -/
def healDropsSpec : ChangeSpec := { name := "healDrops", fn := fun _ => fun
  | [d1, d2, d3, d4] => { results := [.lit (.bool true)], args := [d1, d2, d3, d4] }
  | _ => none }
def healDropsRow : OpenClaim := { program := "ytmdonjadhkffiaa", sum := "eb3106baf3b16b739b3d5932873c83952c7d4da58ff256eec168dadf56eb1fb1", func := "seawall/seawalllaw16.HealDrops", spec := "healDrops", unfollowed := true, recurses := true, apart := false }
def HealDropsSaid : Prop := healDropsRow.holds Try.pinned (OpenSpec.ofChange healDropsSpec)

/-- ITS FALSE NEIGHBOUR: 'it returns false'. Refute it at one input. -/
def healDropsWrong : ChangeSpec := { name := "healDrops", fn := fun _ => fun
  | [d1, d2, d3, d4] => { results := [.lit (.bool false)], args := [d1, d2, d3, d4] }
  | _ => none }
def HealDropsWrongFalsely : Prop := healDropsRow.holds Try.pinned (OpenSpec.ofChange healDropsWrong)

/-- 'seawalllaw16.HealEven': WHATEVER THE INPUT: true; the input reads as it did. -/
def healEvenSpec : ChangeSpec := { name := "healEven", fn := fun _ => fun
  | [d1, d2, d3] => { results := [.lit (.bool true)], args := [d1, d2, d3] }
  | _ => none }
def healEvenRow : OpenClaim := { program := "ytmdonjadhkffiaa", sum := "eb3106baf3b16b739b3d5932873c83952c7d4da58ff256eec168dadf56eb1fb1", func := "seawall/seawalllaw16.HealEven", spec := "healEven", unfollowed := true, recurses := true, apart := false }
def HealEvenSaid : Prop := healEvenRow.holds Try.pinned (OpenSpec.ofChange healEvenSpec)

/-- ITS FALSE NEIGHBOUR: 'it returns false'. Refute it at one input. -/
def healEvenWrong : ChangeSpec := { name := "healEven", fn := fun _ => fun
  | [d1, d2, d3] => { results := [.lit (.bool false)], args := [d1, d2, d3] }
  | _ => none }
def HealEvenWrongFalsely : Prop := healEvenRow.holds Try.pinned (OpenSpec.ofChange healEvenWrong)

/-- 'seawalllaw16.HealGone': WHATEVER THE INPUT: true; the input reads as it did. -/
def healGoneSpec : ChangeSpec := { name := "healGone", fn := fun _ => fun
  | [d1, d2, d3] => { results := [.lit (.bool true)], args := [d1, d2, d3] }
  | _ => none }
def healGoneRow : OpenClaim := { program := "ytmdonjadhkffiaa", sum := "eb3106baf3b16b739b3d5932873c83952c7d4da58ff256eec168dadf56eb1fb1", func := "seawall/seawalllaw16.HealGone", spec := "healGone", unfollowed := true, recurses := true, apart := false }
def HealGoneSaid : Prop := healGoneRow.holds Try.pinned (OpenSpec.ofChange healGoneSpec)

/-- ITS FALSE NEIGHBOUR: 'it returns false'. Refute it at one input. -/
def healGoneWrong : ChangeSpec := { name := "healGone", fn := fun _ => fun
  | [d1, d2, d3] => { results := [.lit (.bool false)], args := [d1, d2, d3] }
  | _ => none }
def HealGoneWrongFalsely : Prop := healGoneRow.holds Try.pinned (OpenSpec.ofChange healGoneWrong)

/- THE SECOND FORM. 'bulk': how many values and letters a reading holds, each counted each time it is reached (what is shared counts as often as it is met; a slice's spare places count too). A statement '..UptoSaid' is the law's where the arguments, and the package variables that the reading takes, are together of bulk at most 1048576: NARROWER than '..Said'. Prove '..Said' where nothing that the law and all that it calls make is longer than what came in: it says more and counts as full. Else prove '..UptoSaid'. A law counts once. -/
mutual
def uptoBulk {H : Type} : DataW H → Nat
  | .lit (.string bytes) => bytes.length + 1
  | .lit _ => 1
  | .nil => 1
  | .ptr d => uptoBulk d + 1
  | .slice elems spare => uptoBulkAll elems + uptoBulkAll spare + 1
  | .agg parts => uptoBulkAll parts + 1
  | .iface _ d => uptoBulk d + 1
  | .map entries => uptoBulkEntries entries + 1
  | .held _ => 1
def uptoBulkAll {H : Type} : List (DataW H) → Nat
  | [] => 0
  | d :: r => uptoBulk d + uptoBulkAll r
def uptoBulkEntries {H : Type} : List (Lit × DataW H) → Nat
  | [] => 0
  | x :: r => uptoBulkEntry x + uptoBulkEntries r
def uptoBulkEntry {H : Type} : Lit × DataW H → Nat
  | (.string bytes, d) => bytes.length + uptoBulk d + 1
  | (_, d) => uptoBulk d + 1
 end
def uptoSmall : (H : Type) → List (DataW H) → Bool := fun _ ds => decide (uptoBulkAll ds ≤ 1048576)
def OpenSpec.upto (s : _root_.Go.ChangeSpec) : _root_.Go.OpenSpec := { _root_.Go.OpenSpec.ofChange s with cond := some uptoSmall }

/-- 'seawalllaw16.HealPlans', WHERE WHAT IT READS IS OF BULK AT MOST 1048576: true; the input reads as it did. -/
def healPlansUptoRow : OpenClaim := { program := "ytmdonjadhkffiaa", sum := "eb3106baf3b16b739b3d5932873c83952c7d4da58ff256eec168dadf56eb1fb1", func := "seawall/seawalllaw16.HealPlans", spec := "healPlans", unfollowed := true, recurses := true, apart := false, narrowed := true }
def HealPlansUptoSaid : Prop := healPlansUptoRow.holds Try.pinned (OpenSpec.upto healPlansSpec)

/-- 'seawalllaw16.HealApplies', WHERE WHAT IT READS IS OF BULK AT MOST 1048576: true; the input reads as it did. -/
def healAppliesUptoRow : OpenClaim := { program := "ytmdonjadhkffiaa", sum := "eb3106baf3b16b739b3d5932873c83952c7d4da58ff256eec168dadf56eb1fb1", func := "seawall/seawalllaw16.HealApplies", spec := "healApplies", unfollowed := true, recurses := true, apart := false, narrowed := true }
def HealAppliesUptoSaid : Prop := healAppliesUptoRow.holds Try.pinned (OpenSpec.upto healAppliesSpec)

/-- 'seawalllaw16.HealMends', WHERE WHAT IT READS IS OF BULK AT MOST 1048576: true; the input reads as it did. -/
def healMendsUptoRow : OpenClaim := { program := "ytmdonjadhkffiaa", sum := "eb3106baf3b16b739b3d5932873c83952c7d4da58ff256eec168dadf56eb1fb1", func := "seawall/seawalllaw16.HealMends", spec := "healMends", unfollowed := true, recurses := true, apart := false, narrowed := true }
def HealMendsUptoSaid : Prop := healMendsUptoRow.holds Try.pinned (OpenSpec.upto healMendsSpec)

/-- 'seawalllaw16.HealSpreads', WHERE WHAT IT READS IS OF BULK AT MOST 1048576: true; the input reads as it did. -/
def healSpreadsUptoRow : OpenClaim := { program := "ytmdonjadhkffiaa", sum := "eb3106baf3b16b739b3d5932873c83952c7d4da58ff256eec168dadf56eb1fb1", func := "seawall/seawalllaw16.HealSpreads", spec := "healSpreads", unfollowed := true, recurses := true, apart := false, narrowed := true }
def HealSpreadsUptoSaid : Prop := healSpreadsUptoRow.holds Try.pinned (OpenSpec.upto healSpreadsSpec)

/-- 'seawalllaw16.HealDrops', WHERE WHAT IT READS IS OF BULK AT MOST 1048576: true; the input reads as it did. -/
def healDropsUptoRow : OpenClaim := { program := "ytmdonjadhkffiaa", sum := "eb3106baf3b16b739b3d5932873c83952c7d4da58ff256eec168dadf56eb1fb1", func := "seawall/seawalllaw16.HealDrops", spec := "healDrops", unfollowed := true, recurses := true, apart := false, narrowed := true }
def HealDropsUptoSaid : Prop := healDropsUptoRow.holds Try.pinned (OpenSpec.upto healDropsSpec)

/-- 'seawalllaw16.HealEven', WHERE WHAT IT READS IS OF BULK AT MOST 1048576: true; the input reads as it did. -/
def healEvenUptoRow : OpenClaim := { program := "ytmdonjadhkffiaa", sum := "eb3106baf3b16b739b3d5932873c83952c7d4da58ff256eec168dadf56eb1fb1", func := "seawall/seawalllaw16.HealEven", spec := "healEven", unfollowed := true, recurses := true, apart := false, narrowed := true }
def HealEvenUptoSaid : Prop := healEvenUptoRow.holds Try.pinned (OpenSpec.upto healEvenSpec)

/-- 'seawalllaw16.HealGone', WHERE WHAT IT READS IS OF BULK AT MOST 1048576: true; the input reads as it did. -/
def healGoneUptoRow : OpenClaim := { program := "ytmdonjadhkffiaa", sum := "eb3106baf3b16b739b3d5932873c83952c7d4da58ff256eec168dadf56eb1fb1", func := "seawall/seawalllaw16.HealGone", spec := "healGone", unfollowed := true, recurses := true, apart := false, narrowed := true }
def HealGoneUptoSaid : Prop := healGoneUptoRow.holds Try.pinned (OpenSpec.upto healGoneSpec)

end Rows
end Go.Proofs.Ytmdonjadhkffiaa
