/- Guarded operations of a region that is walked in the order of its text. Conditions: none. -/
import Derived.Test.YtmbfglblkpipcaaCanon
namespace Go.Proofs.Ytmbfglblkpipcaa
open Go.RowKit
variable {P : Program} {ops : Array Oper} {fl : List Tmp}

theorem wpC_skip {Q : Exit → Act → World → Prop} {a : Act} {w : World} {o : Oper} {rest : List Oper} {a' : Act} (hw : Region.wanted o (yielded ops a.tmps) = false)
    (h : ∀ K : Act → Prop, K a' → K (a.put o.dst undef)) (h2 : wpC P ops fl Q rest a' w) : wpC P ops fl Q (o :: rest) a w := by
  show wpO _ _ _ _ _ _ _
  unfold wpO
  rw [if_neg (by rw [hw]; decide), h (fun b => b = a') rfl]
  exact h2

theorem wpC_pureW {Q : Exit → Act → World → Prop} {a : Act} {w : World} {o : Oper} {rest : List Oper} {v : Value} {a' : Act} (hk : kindOf fl o = 0) (hw : Region.wanted o (yielded ops a.tmps) = true)
    (h : ∀ (K : Value → Act → Prop) (w' : World), K v a' → calm P o a w' (fun u => K u (a.put o.dst u)))
    (h2 : wpC P ops fl Q rest a' w) : wpC P ops fl Q (o :: rest) a w :=
  wpC_pure hk (fun K w' x => by rw [if_pos hw]; exact h K w' x) h2

theorem wpC_loadW {Q : Exit → Act → World → Prop} {a : Act} {w : World} {o : Oper} {rest : List Oper} {v : Value} {a' : Act} (hk : kindOf fl o = 1) (hw : Region.wanted o (yielded ops a.tmps) = true)
    (h : ∀ (K : Value → Act → Prop), K v a' → calm P o a w (fun u => K u (a.put o.dst u)))
    (h2 : wpC P ops fl Q rest a' w) : wpC P ops fl Q (o :: rest) a w :=
  wpC_load hk (fun K x => by rw [if_pos hw]; exact h K x) h2

/-- An operation that makes memory alone, whose guard is met. -/
theorem wpC_newW {Q : Exit → Act → World → Prop} {a : Act} {w : World} {o : Oper} {rest : List Oper} (hk : kindOf fl o = 3) (hw : Region.wanted o (yielded ops a.tmps) = true)
    (h : ∀ K : Act → World → Prop, (∀ a' w', Pre w w' → wpC P ops fl Q rest a' w' → K a' w') → o.wp P a w K noQ) : wpC P ops fl Q (o :: rest) a w := by
  show wpO _ _ _ _ _ _ _
  unfold wpO
  rw [if_pos hw, if_neg (by omega)]
  exact Oper.wp_mono (fun a' w' hh => ⟨fun _ => hh.1, hh.2⟩) (h (fun a' w' => Pre w w' ∧ wpC P ops fl Q rest a' w') fun _ _ hp hh => ⟨hp, hh⟩)
end Go.Proofs.Ytmbfglblkpipcaa
