/- Texts Later in one. Conditions: as each law names them. -/
import Derived.BigQuiet
import Derived.Test.YtnidpeeljoaelaaPac
/- A region that draws its order and whose operations change nothing that was there: one walk in the order of the text, in any world that has all the elder blocks unchanged. Conditions: the kit's Bool check over the region. -/
namespace Go.Proofs.Ytnidpeeljoaelaa
open Go.RowKit

/-- A later world with all the elder blocks, unchanged. -/
structure Later (w : World) where
  val : World
  keep : Keep (fun _ => False) w val

instance (w : World) : Nonempty (Later w) := ⟨⟨w, Keep.refl _ _⟩⟩

theorem wp_region_later {P : Program} {id : Nat} {Q : Exit → Act → World → Prop} {a : Act} {w : World} {l : List Oper} (hm : P.follows .mixedOrders = true) (hB : Region.lexB .any l.toArray = true)
    (h : wpQuiet P l.toArray (fun w' => ∃ s : Later w, w' = s.val) (fun a' => ∀ w', (∃ s : Later w, w' = s.val) → Q .normal a' w') l a) : (Code.region id l.toArray true).wp P Q a w :=
  wp_region_quiet (C := fun w' => ∃ s : Later w, w' = s.val) hm hB ⟨⟨_, (Keep.refl _ w).drew⟩, rfl⟩ (by simpa using h)

theorem Later.call {P : Program} {f : FuncId} {args : Array Value} {w : World} {s : Later w} {v : Value} (h : Calls P f args s.val fun e w' => e = .returned v ∧ Keep (fun _ => False) s.val w') :
    Calls P f args s.val fun e w'' => e = .returned v ∧ ∃ t : Later w, w'' = t.val :=
  h.mono fun _ w'' ⟨he, hk⟩ => ⟨he, ⟨w'', s.keep.next hk (fun _ _ x => x) (fun _ _ x => x)⟩, rfl⟩
theorem Later.cell {w : World} (s : Later w) {a : Addr} {v : Value} (h : w.cell? a = some v) : s.val.cell? a = some v := by
  rw [World.cell?_of_block (s.keep.block _ (World.block_lt_of_cell? w _ h) id)]
  exact h
end Go.Proofs.Ytnidpeeljoaelaa
