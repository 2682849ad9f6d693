/- AcceptPlays returns true whatever it is given, and changes nothing that was there. Conditions: none beyond the row's own. -/
import Derived.Test.YtkjofdocgaiedaaGreatLaw
import Derived.Test.YtkjofdocgaiedaaGreatQbm
namespace Go.Proofs.YtkjofdocgaiedaaGreat.acceptPlays
open Go.ChangeShapes Go.WideShapes Go.ChangeAt Go.RowKit

theorem own : ownKnob Tryz.prog.godebug = none := by kernel_rfl
theorem laidOut : laidOutB Tryz.prog = true := by kernel_rfl

set_option maxRecDepth 100000 in
theorem lifted (os : Os) (started : os.Started) (H : Type) (enc : TypeId × Value → H) :
    ReturnsInHanded {} Tryz.checked os 6 .any (Rows.acceptPlaysSpec.pre6 enc Tryz.prog Tryz.f6 Rows.acceptPlaysRow.domain false) (Rows.acceptPlaysSpec.post enc Tryz.prog Tryz.f6 false true false false) := by
  refine returnsInHanded_of_change_sized (C := Tryz.checked) own started (by kernel_rfl) Tryz.func6
    (ChangeSpec.witness6 (enc := enc) (C := Tryz.checked) false ⟨#[], #[.int .i64 0, .slice none 0 0, .int .u64 0], []⟩ 8 (by kernel_rfl) (by kernel_rfl) (by kernel_rfl) (by kernel_rfl)) ?_
  intro W base args ds gs before hval hW _ _ _
  have hW' := hW
  obtain ⟨p, q, hA, hV, rfl, _, _⟩ := hW
  have hA' : DataW.TrodAll enc Tryz.prog W 0 (fun _ => true) true [3, 71, 23] args.toList ds p := hA
  obtain ⟨v0, vs0, d0, ds0, p0, q0, hargs, rfl, rfl, h0, r0⟩ := trodAll_cons hA'
  obtain ⟨v1, vs1, d1, ds1, p1, q1, rfl, rfl, rfl, h1, r1⟩ := trodAll_cons r0
  obtain ⟨v2, vs2, d2, ds2, p2, q2, rfl, rfl, rfl, h2, r2⟩ := trodAll_cons r1
  obtain ⟨rfl, rfl, rfl⟩ := trodAll_nil r2
  obtain rfl : args = #[v0, v1, v2] := by cases args; simp_all
  obtain ⟨a0, rfl, rfl, rfl, w0⟩ := open_int Tryz.underlying3 (hval 0 3 v0 rfl rfl) h0
  have x0 := zlH w0
  obtain ⟨b1, m1, c1, rfl⟩ := okWide_slice Tryz.underlying71 (hval 1 71 v1 rfl rfl)
  obtain ⟨fu1, hf1⟩ := h1
  obtain ⟨l1, hl1⟩ := rd_aacts hf1
  obtain ⟨a2, rfl, rfl, rfl, w2⟩ := open_int Tryz.underlying23 (hval 2 23 v2 rfl rfl) h2
  have x2 := zvA w2
  refine (zuY W a0 x0.1 x0.2 _ l1 hl1 a2 x2.1 x2.2).mono fun e W' ⟨he, hk⟩ => ?_
  subst he
  exact ⟨_, rfl, law_post laidOut (by decide +kernel) rfl Tryz.underlying4 rfl rfl hW' (hk.below (fun i x => x.elim))⟩

theorem over : Rows.acceptPlaysRow.holds Tryz.pinned (OpenSpec.ofChange Rows.acceptPlaysSpec) :=
  OpenClaim.holds_of_wide 6 Tryz.f6 rfl rfl rfl rfl rfl rfl rfl ⟨rfl, rfl, rfl, rfl, rfl⟩ rfl rfl rfl rfl rfl (by kernel_rfl) Tryz.func6 (by kernel_rfl)
    (of_decide_eq_true (by kernel_rfl)) (by unfold Func.isWrapper; first | (rw [if_pos (by decide +kernel)]; kernel_rfl) | (rw [if_neg (by decide +kernel)]; exact ⟨rfl, rfl⟩))
    (fun os started H enc _ => lifted os started H enc)

theorem proved : Rows.AcceptPlaysSaid :=
  over
end Go.Proofs.YtkjofdocgaiedaaGreat.acceptPlays
