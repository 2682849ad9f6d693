/- span's laws: what they lean on: shape, Same, known. Conditions: as each contract names them. -/
import Derived.Test.YtmbfglblkpipcaaSpanS
import Derived.Test.YtmbfglblkpipcaaSpanE
namespace Go.Proofs.Ytmbfglblkpipcaa
open Go.RowKit
open SM

set_option maxRecDepth 20000 in
theorem check_empty (w : World) :
    Calls Try.prog 16 #[.agg #[.int .u64 0, .int .i64 0, .int .i64 0, .int .i64 0]] w fun e w' => e = .returned (.int .i64 170) ∧ Keep (fun _ => False) w w' := by
  go_enter Try.func16, Try.ntmps16
  go_wp2_with (at_builtin; refine stopAt ?_; intro q hq)
  go_ret
  exact ⟨by rfl, (Keep.refl _ _).alloc _⟩

set_option maxRecDepth 20000 in
theorem same_pcs (w : World) (ao bo : Option Addr) (c d : Nat) (l : List Pc) (h1 : Row w 34 4 (.slice ao l.length c) l.length (pcsV l)) (h2 : Row w 34 4 (.slice bo l.length d) l.length (pcsV l)) :
    Calls Try.prog 23 #[.slice ao l.length c, .slice bo l.length d] w fun e w' => e = .returned (.bool true) ∧ Keep (fun _ => False) w w' := by
  have hn63 : (l.length : Int) ≤ 9223372036854775807 := by obtain ⟨_, _, _, x1, x2, _⟩ := h1.form; unfold maxLen at x2; omega
  have H1 := hid h1
  have H2 := hid h2
  obtain ⟨n, hn⟩ : ∃ n, n = l.length := ⟨_, rfl⟩
  rw [← hn] at hn63 ⊢
  have Hn := hid hn
  clear h1 h2 hn
  go_enter Try.func23, Try.ntmps23
  go_wp2_with (at_builtin; refine stopAt ?_; intro q hq)
  go_loopw [5] (fun iv wr => ∃ i : Nat, i ≤ n ∧ iv = .int .i64 i ∧ Hid (Keep (fun _ => False) w wr)) (fun iv _ => n - (intOf iv).toNat)
  case atStart => exact ⟨0, Nat.zero_le _, rfl, hid (Keep.refl _ _)⟩
  case round =>
    obtain ⟨i, hi, rfl, HK⟩ := hrel
    by_cases hin : i < n
    · have h4 : (i : Int) < n := by omega
      have hil : i < l.length := by rw [← Hn.out]; exact hin
      have gets : ∀ ao' c', Row w 34 4 (.slice ao' l.length c') l.length (pcsV l) → ∃ g, ao' = some ⟨g, 0, none⟩ ∧ ∀ t u, (pcV l[i])[t]? = some u → wr.cell? ⟨g, i * 4 + t, none⟩ = some u := fun ao' c' hr => by
        have hr' := hr.keep HK.out (fun _ _ x => x)
        have h0 := pcsV_get l i hil 0 (by decide)
        obtain ⟨g, cap, hv, hc⟩ := hr'.getCell (show (pcsV l)[i * 4 + 0]? = some (.int .i64 (l[i].c : Int)) by rw [h0]; rfl)
        cases hv
        refine ⟨g, rfl, fun t u hu => ?_⟩
        have ht : t < 4 := (List.getElem?_eq_some_iff.1 hu).1
        have h1 := pcsV_get l i hil t ht
        rw [hu] at h1
        obtain ⟨g', cap', hv', hc'⟩ := hr'.getCell h1
        cases hv'
        exact hc'
      obtain ⟨g, rfl, k0⟩ := gets _ _ H1.out
      obtain ⟨g2, rfl, k1⟩ := gets _ _ H2.out
      have a0 := k0 0 _ rfl
      have a1 := k0 1 _ rfl
      have a2 := k0 2 _ rfl
      have a3 := k0 3 _ rfl
      have b0 := k1 0 _ rfl
      have b1 := k1 1 _ rfl
      have b2 := k1 2 _ rfl
      have b3 := k1 3 _ rfl
      rw [Nat.add_zero] at a0 b0
      clear k0 k1 gets
      go_wp2_with (at_builtin; refine stopAt ?_; intro q hq)
      go_quiet (fail)
      go_wp2_with (at_builtin; refine stopAt ?_; intro q hq)
      go_roundw
      case rel => exact ⟨i + 1, by omega, by go_num, hid (HK.out.drewN _)⟩
      case measure => simp [intOf]; omega
    · have h4 : decide ((i : Int) < n) = false := by simp; omega
      go_wp2_with (at_builtin; refine stopAt ?_; intro q hq)
      go_ret
      exact ⟨by rfl, HK.out⟩

def kWant : List Pc := [⟨0, 1, 0, 1⟩, ⟨1, 0, 1, 2⟩, ⟨2, 0, 3, 2⟩, ⟨0, 2, 5, 1⟩]
theorem kWant_cov : Cov 8 3 2 1 kWant 6 := by
  refine ⟨by decide, fun p hp => ?_, by decide⟩
  simp only [kWant, List.mem_cons, List.not_mem_nil, or_false] at hp
  rcases hp with rfl | rfl | rfl | rfl <;> exact ⟨by decide, by decide⟩
theorem kWant_few : Few kWant := by
  intro i hi
  have hi' : i + 1 < 4 := hi
  have : i = 0 ∨ i = 1 ∨ i = 2 := by omega
  rcases this with rfl | rfl | rfl <;> simp [kWant]
theorem kShape : ShOk 48 8 3 2 := by constructor <;> decide

set_option maxRecDepth 20000 in
theorem known_any (w : World) : Calls Try.prog 11 #[] w fun e w' => e = .returned (.bool true) ∧ Keep (fun _ => False) w w' := by
  go_enter Try.func11, Try.ntmps11
  go_wp2_with (at_builtin; refine stopAt ?_; intro q hq)
  obtain ⟨w1, hw1⟩ : ∃ w1, w1 = w.alloc (.cells #[.int .u64 48, .int .i64 8, .int .i64 3, .int .i64 2] 25) := ⟨_, rfl⟩
  have X1 : Boxed w 48 8 3 2 w1 := by rw [hw1]; exact Boxed.new w 48 8 3 2
  rw [← hw1]
  clear hw1
  have q1 : ∀ w1, Calls Try.prog 12 #[.agg #[.int .u64 48, .int .i64 8, .int .i64 3, .int .i64 2], .int .u64 3] w1 fun e w' => e = .returned (.tuple #[.int .i64 1, .int .i64 1, .int .i64 0]) ∧ Keep (fun _ => False) w1 w' := fun w1 => where_ok 48 8 3 2 3 kShape (by decide) w1
  have q2 : ∀ w1, Calls Try.prog 12 #[.agg #[.int .u64 48, .int .i64 8, .int .i64 3, .int .i64 2], .int .u64 6] w1 fun e w' => e = .returned (.tuple #[.int .i64 0, .int .i64 2, .int .i64 0]) ∧ Keep (fun _ => False) w1 w' := fun w1 => where_ok 48 8 3 2 6 kShape (by decide) w1
  have q3 : ∀ w1, Calls Try.prog 12 #[.agg #[.int .u64 48, .int .i64 8, .int .i64 3, .int .i64 2], .int .u64 24] w1 fun e w' => e = .returned (.tuple #[.int .i64 3, .int .i64 0, .int .i64 0]) ∧ Keep (fun _ => False) w1 w' := fun w1 => where_ok 48 8 3 2 24 kShape (by decide) w1
  have q4 : ∀ w1, Calls Try.prog 10 #[.agg #[.int .u64 48, .int .i64 8, .int .i64 3, .int .i64 2], .int .u64 1, .int .i64 6] w1 fun e w' => ∃ ao c, e = .returned (.tuple #[.slice ao 4 c, .int .i64 0]) ∧ Row w' 34 4 (.slice ao 4 c) 4 (pcsV kWant) ∧ Keep (fun _ => False) w1 w' := fun w1 =>
    (split_ok 48 8 3 2 1 6 kShape (by decide) (by decide) w1).mono fun e w' ⟨v, l, he, hr, hc, hf, hk, _⟩ => by
      have := cov_unique hc hf kWant_cov kWant_few
      subst this
      obtain ⟨ao, c, rfl, -⟩ := hr.form
      exact ⟨ao, c, he, hr, hk⟩
  have q5 : ∀ w1, Calls Try.prog 18 #[.agg #[.int .u64 48, .int .i64 8, .int .i64 3, .int .i64 2]] w1 fun e w' => e = .returned (.int .i64 6) ∧ Keep (fun _ => False) w1 w' := fun w1 => chunks_ok 48 8 3 2 kShape w1
  refine (q1 w1).mono ?_
  rintro e w2 ⟨rfl, hk2⟩
  have X2 := X1.step hk2
  obtain ⟨i0, i1, i2, i3, if1, ib1⟩ := cells4 X2.at_
  clear X1 hk2
  go_wp2_with (at_builtin; refine stopAt ?_; intro q hq)
  refine (q2 w2).mono ?_
  rintro e w3 ⟨rfl, hk3⟩
  have X3 := X2.step hk3
  clear i0 i1 i2 i3 if1 ib1 X2 hk3
  obtain ⟨i0, i1, i2, i3, if1, ib1⟩ := cells4 X3.at_
  go_wp2_with (at_builtin; refine stopAt ?_; intro q hq)
  refine (q3 w3).mono ?_
  rintro e w4 ⟨rfl, hk4⟩
  have X4 := X3.step hk4
  clear i0 i1 i2 i3 if1 ib1 X3 hk4
  obtain ⟨i0, i1, i2, i3, if1, ib1⟩ := cells4 X4.at_
  go_wp2_with (at_builtin; refine stopAt ?_; intro q hq)
  refine (q4 w4).mono ?_
  rintro e w5 ⟨ao, c, rfl, hr5, hk5⟩
  have X5 := X4.step hk5
  have HR5 := hid hr5
  clear i0 i1 i2 i3 if1 ib1 X4 hk5 hr5
  obtain ⟨i0, i1, i2, i3, if1, ib1⟩ := cells4 X5.at_
  go_wp2_with (at_builtin; refine stopAt ?_; intro q hq)
  have hkA : Keep (fun _ => False) w5 (w5.alloc (.cells #[.int .i64 0, .int .i64 1, .int .i64 0, .int .i64 1, .int .i64 1, .int .i64 0, .int .i64 1, .int .i64 2, .int .i64 2, .int .i64 0, .int .i64 3, .int .i64 2, .int .i64 0, .int .i64 2, .int .i64 5, .int .i64 1] 34)) := (Keep.refl _ _).alloc _
  have hrA : Row (w5.alloc (.cells #[.int .i64 0, .int .i64 1, .int .i64 0, .int .i64 1, .int .i64 1, .int .i64 0, .int .i64 1, .int .i64 2, .int .i64 2, .int .i64 0, .int .i64 3, .int .i64 2, .int .i64 0, .int .i64 2, .int .i64 5, .int .i64 1] 34)) 34 4 (.slice (some ⟨w5.heap.size, 0, none⟩) 4 4) 4 (pcsV kWant) :=
    ⟨rfl, .inr ⟨w5.heap.size, 4, _, (0, 0), rfl, heap_alloc_new w5 _, Free.zero _, Nat.le_refl _, by decide, rfl, rfl⟩⟩
  obtain ⟨w6, hw6⟩ : ∃ w6, w6 = w5.alloc (.cells #[.int .i64 0, .int .i64 1, .int .i64 0, .int .i64 1, .int .i64 1, .int .i64 0, .int .i64 1, .int .i64 2, .int .i64 2, .int .i64 0, .int .i64 3, .int .i64 2, .int .i64 0, .int .i64 2, .int .i64 5, .int .i64 1] 34) := ⟨_, rfl⟩
  rw [← hw6] at hkA hrA ⊢
  clear hw6
  refine (same_pcs w6 ao _ c 4 kWant (HR5.out.keep hkA (fun _ _ x => x)) hrA).mono ?_
  rintro e w7 ⟨rfl, hk7⟩
  have X7 := (X5.step hkA).step hk7
  clear i0 i1 i2 i3 if1 ib1 X5 hkA hrA hk7
  obtain ⟨i0, i1, i2, i3, if1, ib1⟩ := cells4 X7.at_
  go_wp2_with (at_builtin; refine stopAt ?_; intro q hq)
  refine (q5 w7).mono ?_
  rintro e w8 ⟨rfl, hk8⟩
  have X8 := X7.step hk8
  go_wp2_with (at_builtin; refine stopAt ?_; intro q hq)
  refine (check_empty w8).mono ?_
  rintro e w9 ⟨rfl, hk9⟩
  have K9 := hid (X8.step hk9).keep
  clear X8 X7 hk9 hk8
  go_wp2_with (at_builtin; refine stopAt ?_; intro q hq)
  go_ret
  exact ⟨by rfl, K9.out⟩
end Go.Proofs.Ytmbfglblkpipcaa
