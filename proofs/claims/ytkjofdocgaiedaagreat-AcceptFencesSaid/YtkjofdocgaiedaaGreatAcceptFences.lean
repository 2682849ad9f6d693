/- AcceptFences returns true whatever it is given, and changes nothing that was there. Conditions: none beyond the row's own. -/
import Derived.Test.YtkjofdocgaiedaaGreatLaw
import Derived.Test.YtkjofdocgaiedaaGreatVbe
import Derived.Test.YtkjofdocgaiedaaGreatVbi
namespace Go.Proofs.YtkjofdocgaiedaaGreat.acceptFences
open Go.ChangeShapes Go.WideShapes Go.ChangeAt Go.RowKit

theorem own : ownKnob Tryz.prog.godebug = none := by kernel_rfl
theorem laidOut : laidOutB Tryz.prog = true := by kernel_rfl

set_option maxRecDepth 100000 in
theorem lifted (os : Os) (started : os.Started) (H : Type) (enc : TypeId × Value → H) :
    ReturnsInHanded {} Tryz.checked os 4 .any (Rows.acceptFencesSpec.pre6 enc Tryz.prog Tryz.f4 Rows.acceptFencesRow.domain false) (Rows.acceptFencesSpec.post enc Tryz.prog Tryz.f4 false true false false) := by
  refine returnsInHanded_of_change_sized (C := Tryz.checked) own started (by kernel_rfl) Tryz.func4
    (ChangeSpec.witness6 (enc := enc) (C := Tryz.checked) false ⟨#[], #[.agg #[.int .u64 0, .int .i64 0], .slice none 0 0], []⟩ 8 (by kernel_rfl) (by kernel_rfl) (by kernel_rfl) (by kernel_rfl)) ?_
  intro W base args ds gs before hval hW _ _ _
  have hW' := hW
  obtain ⟨p, q, hA, hV, rfl, _, _⟩ := hW
  have hA' : DataW.TrodAll enc Tryz.prog W 0 (fun _ => true) true [28, 22] args.toList ds p := hA
  obtain ⟨v0, vs0, d0, ds0, p0, q0, hargs, rfl, rfl, h0, r0⟩ := trodAll_cons hA'
  obtain ⟨v1, vs1, d1, ds1, p1, q1, rfl, rfl, rfl, h1, r1⟩ := trodAll_cons r0
  obtain ⟨rfl, rfl, rfl⟩ := trodAll_nil r1
  obtain rfl : args = #[v0, v1] := by cases args; simp_all
  obtain ⟨a0, rfl, w0⟩ := ztB (hval 0 28 v0 rfl rfl) h0
  obtain ⟨b1, m1, c1, rfl⟩ := okWide_slice Tryz.underlying22 (hval 1 22 v1 rfl rfl)
  obtain ⟨fu1, hf1⟩ := h1
  obtain ⟨l1, hl1⟩ := rd_votes hf1
  refine (zrT W a0 w0 _ l1 hl1).mono fun e W' ⟨he, hk⟩ => ?_
  subst he
  exact ⟨_, rfl, law_post laidOut (by decide +kernel) rfl Tryz.underlying4 rfl rfl hW' (hk.below (fun i x => x.elim))⟩

theorem over : Rows.acceptFencesRow.holds Tryz.pinned (OpenSpec.ofChange Rows.acceptFencesSpec) :=
  OpenClaim.holds_of_wide 4 Tryz.f4 rfl rfl rfl rfl rfl rfl rfl ⟨rfl, rfl, rfl, rfl, rfl⟩ rfl rfl rfl rfl rfl (by kernel_rfl) Tryz.func4 (by kernel_rfl)
    (of_decide_eq_true (by kernel_rfl)) (by unfold Func.isWrapper; first | (rw [if_pos (by decide +kernel)]; kernel_rfl) | (rw [if_neg (by decide +kernel)]; exact ⟨rfl, rfl⟩))
    (fun os started H enc _ => lifted os started H enc)

theorem proved : Rows.AcceptFencesSaid :=
  over
end Go.Proofs.YtkjofdocgaiedaaGreat.acceptFences
