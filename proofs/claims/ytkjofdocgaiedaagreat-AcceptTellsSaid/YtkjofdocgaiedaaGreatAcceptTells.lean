/- AcceptTells returns true whatever it is given, and changes nothing that was there. Conditions: none beyond the row's own. -/
import Derived.Test.YtkjofdocgaiedaaGreatLaw
import Derived.Test.YtkjofdocgaiedaaGreatUbi
namespace Go.Proofs.YtkjofdocgaiedaaGreat.acceptTells
open Go.ChangeShapes Go.WideShapes Go.ChangeAt Go.RowKit

theorem own : ownKnob Tryz.prog.godebug = none := by kernel_rfl
theorem laidOut : laidOutB Tryz.prog = true := by kernel_rfl

set_option maxRecDepth 100000 in
theorem lifted (os : Os) (started : os.Started) (H : Type) (enc : TypeId × Value → H) :
    ReturnsInHanded {} Tryz.checked os 3 .any (Rows.acceptTellsSpec.pre6 enc Tryz.prog Tryz.f3 Rows.acceptTellsRow.domain false) (Rows.acceptTellsSpec.post enc Tryz.prog Tryz.f3 false true false false) := by
  refine returnsInHanded_of_change_sized (C := Tryz.checked) own started (by kernel_rfl) Tryz.func3
    (ChangeSpec.witness6 (enc := enc) (C := Tryz.checked) false ⟨#[], #[.slice none 0 0, .int .u64 0], []⟩ 8 (by kernel_rfl) (by kernel_rfl) (by kernel_rfl) (by kernel_rfl)) ?_
  intro W base args ds gs before hval hW _ _ _
  have hW' := hW
  obtain ⟨p, q, hA, hV, rfl, _, _⟩ := hW
  have hA' : DataW.TrodAll enc Tryz.prog W 0 (fun _ => true) true [22, 23] args.toList ds p := hA
  obtain ⟨v0, vs0, d0, ds0, p0, q0, hargs, rfl, rfl, h0, r0⟩ := trodAll_cons hA'
  obtain ⟨v1, vs1, d1, ds1, p1, q1, rfl, rfl, rfl, h1, r1⟩ := trodAll_cons r0
  obtain ⟨rfl, rfl, rfl⟩ := trodAll_nil r1
  obtain rfl : args = #[v0, v1] := by cases args; simp_all
  obtain ⟨b0, m0, c0, rfl⟩ := okWide_slice Tryz.underlying22 (hval 0 22 v0 rfl rfl)
  obtain ⟨fu0, hf0⟩ := h0
  obtain ⟨l0, hl0⟩ := rd_votes hf0
  obtain ⟨a1, rfl, rfl, rfl, w1⟩ := open_int Tryz.underlying23 (hval 1 23 v1 rfl rfl) h1
  have x1 := zrS w1
  obtain ⟨f0, rfl⟩ : ∃ n : Nat, a1 = (n : Int) := ⟨a1.toNat, (Int.toNat_of_nonneg x1.1).symm⟩
  refine (zsO W _ l0 hl0 f0).mono fun e W' ⟨he, hk⟩ => ?_
  subst he
  exact ⟨_, rfl, law_post laidOut (by decide +kernel) rfl Tryz.underlying4 rfl rfl hW' (hk.below (fun i x => x.elim))⟩

theorem over : Rows.acceptTellsRow.holds Tryz.pinned (OpenSpec.ofChange Rows.acceptTellsSpec) :=
  OpenClaim.holds_of_wide 3 Tryz.f3 rfl rfl rfl rfl rfl rfl rfl ⟨rfl, rfl, rfl, rfl, rfl⟩ rfl rfl rfl rfl rfl (by kernel_rfl) Tryz.func3 (by kernel_rfl)
    (of_decide_eq_true (by kernel_rfl)) (by unfold Func.isWrapper; first | (rw [if_pos (by decide +kernel)]; kernel_rfl) | (rw [if_neg (by decide +kernel)]; exact ⟨rfl, rfl⟩))
    (fun os started H enc _ => lifted os started H enc)

theorem proved : Rows.AcceptTellsSaid :=
  over
end Go.Proofs.YtkjofdocgaiedaaGreat.acceptTells
