/- SpanSplits: what both answer, the same at every shape and every request; the walk. Conditions: none but the arguments' own kinds. -/
import Derived.Test.YtmbfglblkpipcaaSpanT
import Derived.Test.YtmbfglblkpipcaaSpanG
namespace Go.Proofs.Ytmbfglblkpipcaa
open Go.RowKit
open SM

/-- A call that gives pieces and a number. -/
def GivesP (f : Nat) (args : Array Value) (E : Int) (l : List Pc) : Prop := ∀ w, Calls Try.prog f args w fun e w2 => ∃ ao c, e = .returned (.tuple #[.slice ao l.length c, .int .i64 E]) ∧ Row w2 34 4 (.slice ao l.length c) l.length (pcsV l) ∧ Keep (fun _ => False) w w2
/-- A call that gives numbers and a number. -/
def GivesN (f : Nat) (args : Array Value) (E : Int) (t : List Int) : Prop := ∀ w, Calls Try.prog f args w fun e w2 => ∃ ao c, e = .returned (.tuple #[.slice ao t.length c, .int .i64 E]) ∧ Row w2 3 1 (.slice ao t.length c) t.length (numsV t) ∧ Keep (fun _ => False) w w2

theorem GivesP.err {f : Nat} {args : Array Value} {E : Int} (h : ∀ w, Calls Try.prog f args w fun e w2 => e = .returned (.tuple #[.slice none 0 0, .int .i64 E]) ∧ Keep (fun _ => False) w w2) : GivesP f args E [] :=
  fun w => (h w).mono fun _ _ ⟨he, hk⟩ => ⟨none, 0, he, Row.nil _ _ _, hk⟩
theorem GivesN.err {f : Nat} {args : Array Value} {E : Int} (h : ∀ w, Calls Try.prog f args w fun e w2 => e = .returned (.tuple #[.slice none 0 0, .int .i64 E]) ∧ Keep (fun _ => False) w w2) : GivesN f args E [] :=
  fun w => (h w).mono fun _ _ ⟨he, hk⟩ => ⟨none, 0, he, Row.nil _ _ _, hk⟩

set_option maxRecDepth 20000 in
/-- Both answer the same, whatever they are asked. -/
theorem splits_both (B : Nat) (C W U : Int) (x : Nat) (k : Int) (hB : B ≤ 18446744073709551615) (hx : x ≤ 18446744073709551615) : ∃ (E : Int) (l : List Pc) (t : List Int),
    GivesP 10 #[.agg #[.int .u64 (B : Int), .int .i64 C, .int .i64 W, .int .i64 U], .int .u64 (x : Int), .int .i64 k] E l ∧
    GivesP 20 #[.agg #[.int .u64 (B : Int), .int .i64 C, .int .i64 W, .int .i64 U], .int .u64 (x : Int), .int .i64 k] E l ∧
    GivesN 21 #[.agg #[.int .u64 (B : Int), .int .i64 C, .int .i64 W, .int .i64 U], .int .u64 (x : Int), .int .i64 k] E t ∧
    GivesN 22 #[.agg #[.int .u64 (B : Int), .int .i64 C, .int .i64 W, .int .i64 U], .int .u64 (x : Int), .int .i64 k] E t := by
  have errs : ∀ E : Int, E ≠ 0 → (∀ w, Calls Try.prog 10 #[.agg #[.int .u64 (B : Int), .int .i64 C, .int .i64 W, .int .i64 U], .int .u64 (x : Int), .int .i64 k] w fun e w2 => e = .returned (.tuple #[.slice none 0 0, .int .i64 E]) ∧ Keep (fun _ => False) w w2) →
      (∀ w, Calls Try.prog 20 #[.agg #[.int .u64 (B : Int), .int .i64 C, .int .i64 W, .int .i64 U], .int .u64 (x : Int), .int .i64 k] w fun e w2 => e = .returned (.tuple #[.slice none 0 0, .int .i64 E]) ∧ Keep (fun _ => False) w w2) → _ := fun E hE h1 h2 =>
    (⟨E, [], [], GivesP.err h1, GivesP.err h2, GivesN.err (touch_err B C W U x k E hE h1), GivesN.err (rtouch_err B C W U x k E hE h2)⟩ : ∃ (E : Int) (l : List Pc) (t : List Int),
    GivesP 10 #[.agg #[.int .u64 (B : Int), .int .i64 C, .int .i64 W, .int .i64 U], .int .u64 (x : Int), .int .i64 k] E l ∧
    GivesP 20 #[.agg #[.int .u64 (B : Int), .int .i64 C, .int .i64 W, .int .i64 U], .int .u64 (x : Int), .int .i64 k] E l ∧
    GivesN 21 #[.agg #[.int .u64 (B : Int), .int .i64 C, .int .i64 W, .int .i64 U], .int .u64 (x : Int), .int .i64 k] E t ∧
    GivesN 22 #[.agg #[.int .u64 (B : Int), .int .i64 C, .int .i64 W, .int .i64 U], .int .u64 (x : Int), .int .i64 k] E t)
  rcases shape_cases B C W U hB with ⟨c', w', u', rfl, rfl, rfl, h⟩ | ⟨h1, h2⟩
  · by_cases g1 : k < 0
    · exact errs 2 (by decide) (split_neg B c' w' u' x k g1 h) (rsplit_neg B c' w' u' x k g1 h)
    by_cases g2 : 65536 < k
    · exact errs 3 (by decide) (split_much B c' w' u' x k g2 h) (rsplit_much B c' w' u' x k g2 h)
    obtain ⟨kn, rfl⟩ : ∃ n : Nat, (n : Int) = k := ⟨k.toNat, by omega⟩
    by_cases g3 : B < x
    · exact errs 171 (by decide) (split_past B c' w' u' x kn x kn rfl rfl (by omega) g3 hx h) (rsplit_past B c' w' u' x kn x kn rfl rfl (by omega) g3 hx h)
    by_cases g4 : B < x + kn
    · exact errs 171 (by decide) (split_over B c' w' u' x kn x kn rfl rfl (by omega) (by omega) g4 h) (rsplit_over B c' w' u' x kn x kn rfl rfl (by omega) (by omega) g4 h)
    clear errs
    rcases Classical.em (∃ l, Cov c' w' u' x l kn ∧ Few l) with ⟨l, hc, hf⟩ | hno
    · refine ⟨0, l, tch l, fun w => (split_ok B c' w' u' x kn h (by omega) (by omega) w).mono ?_, fun w => (rsplit_ok B c' w' u' x kn h (by omega) (by omega) w).mono ?_, fun w => (touch_ok B c' w' u' x kn h (by omega) (by omega) w).mono ?_, fun w => (rtouch_ok B c' w' u' x kn h (by omega) (by omega) w).mono ?_⟩
      · rintro e w2 ⟨v, l', rfl, hr, hc', hf', hk, -⟩
        obtain rfl := cov_unique hc' hf' hc hf
        obtain ⟨ao, cap, rfl, -⟩ := hr.form
        exact ⟨ao, cap, rfl, hr, hk⟩
      · rintro e w2 ⟨v, l', rfl, hr, hc', hf', hk, -⟩
        obtain rfl := cov_unique hc' hf' hc hf
        obtain ⟨ao, cap, rfl, -⟩ := hr.form
        exact ⟨ao, cap, rfl, hr, hk⟩
      · rintro e w2 ⟨v, l', rfl, hr, hc', hf', hk, -⟩
        obtain rfl := cov_unique hc' hf' hc hf
        obtain ⟨ao, cap, rfl, -⟩ := hr.form
        exact ⟨ao, cap, rfl, hr, hk⟩
      · rintro e w2 ⟨v, l', rfl, hr, hc', hf', hk⟩
        obtain rfl := cov_unique hc' hf' hc hf
        obtain ⟨ao, cap, rfl, -⟩ := hr.form
        exact ⟨ao, cap, rfl, hr, hk⟩
    · refine ⟨0, [], [], fun w => (split_ok B c' w' u' x kn h (by omega) (by omega) w).mono ?_, fun w => (rsplit_ok B c' w' u' x kn h (by omega) (by omega) w).mono ?_, fun w => (touch_ok B c' w' u' x kn h (by omega) (by omega) w).mono ?_, fun w => (rtouch_ok B c' w' u' x kn h (by omega) (by omega) w).mono ?_⟩
      · rintro e w2 ⟨v, l', rfl, hr, hc', hf', hk, -⟩
        exact absurd ⟨l', hc', hf'⟩ hno
      · rintro e w2 ⟨v, l', rfl, hr, hc', hf', hk, -⟩
        exact absurd ⟨l', hc', hf'⟩ hno
      · rintro e w2 ⟨v, l', rfl, hr, hc', hf', hk, -⟩
        exact absurd ⟨l', hc', hf'⟩ hno
      · rintro e w2 ⟨v, l', rfl, hr, hc', hf', hk⟩
        exact absurd ⟨l', hc', hf'⟩ hno
  · exact errs 170 (by decide) (split_bad B C W U x k h1) (rsplit_bad B C W U x k h2)

set_option maxRecDepth 20000 in
set_option maxHeartbeats 1000000 in
theorem splits_walk (w : World) (bi C W U : Int) (hb : 0 ≤ bi ∧ bi ≤ 18446744073709551615) (_hC : -9223372036854775808 ≤ C ∧ C ≤ 9223372036854775807) (_hW : -9223372036854775808 ≤ W ∧ W ≤ 9223372036854775807) (_hU : -9223372036854775808 ≤ U ∧ U ≤ 9223372036854775807)
    (xi : Int) (hx0 : 0 ≤ xi) (_hx1 : xi ≤ 18446744073709551615) (k : Int) (_hk0 : -9223372036854775808 ≤ k) (_hk1 : k ≤ 9223372036854775807) :
    Calls Try.prog 7 #[.agg #[.int .u64 bi, .int .i64 C, .int .i64 W, .int .i64 U], .int .u64 xi, .int .i64 k] w fun e w' => e = .returned (.bool true) ∧ Keep (fun _ => False) w w' := by
  obtain ⟨B, rfl⟩ : ∃ n : Nat, (n : Int) = bi := ⟨bi.toNat, by omega⟩
  obtain ⟨x, rfl⟩ : ∃ n : Nat, (n : Int) = xi := ⟨xi.toNat, by omega⟩
  obtain ⟨E, l, t, k1, k2, k3, k4⟩ := splits_both B C W U x k (by omega) (by omega)
  have K1 := hid k1
  have K2 := hid k2
  have K3 := hid k3
  have K4 := hid k4
  clear k1 k2 k3 k4
  have hE : (E == E) = true := by simp
  by_cases hbig : 3000 < k ∧ k ≤ 65536
  · have t1 : decide (3000 < k) = true := by simp; omega
    have t2 : decide (k ≤ 65536) = true := by simp; omega
    obtain ⟨hg1, hg2⟩ := hbig
    go_enter Try.func7, Try.ntmps7
    go_wp2_with (at_builtin; refine stopAt ?_; intro q hq)
    have hk1 : Keep (fun _ => False) w (w.alloc (.cells #[.int .u64 (B : Int), .int .i64 C, .int .i64 W, .int .i64 U] 25)) := (Keep.refl _ _).alloc _
    obtain ⟨w1, hw1⟩ : ∃ w1, w1 = w.alloc (.cells #[.int .u64 (B : Int), .int .i64 C, .int .i64 W, .int .i64 U] 25) := ⟨_, rfl⟩
    rw [← hw1] at hk1 ⊢
    clear hw1
    refine (known_any w1).mono ?_
    rintro e w9 ⟨rfl, hk9⟩
    have K9 := hid (hk1.next hk9 (fun _ _ x => x) (fun _ _ x => x))
    clear hk1 hk9
    go_wp2_with (at_builtin; refine stopAt ?_; intro q hq)
    go_ret
    exact ⟨by rfl, K9.out⟩
  · have flags : Hid ((decide (3000 < k) = false) ∨ (decide (3000 < k) = true ∧ decide (k ≤ 65536) = false)) := hid (by
      by_cases h1 : 3000 < k
      · exact .inr ⟨by simp; omega, by simp; omega⟩
      · exact .inl (by simp; omega))
    clear hbig
    rcases flags.out with t1 | ⟨t1, t2⟩
    all_goals
      clear flags
      go_enter Try.func7, Try.ntmps7
      go_wp2_with (at_builtin; refine stopAt ?_; intro q hq)
      have hg := heap_alloc_new w (.cells #[.int .u64 (B : Int), .int .i64 C, .int .i64 W, .int .i64 U] 25)
      have hk1 : Keep (fun _ => False) w (w.alloc (.cells #[.int .u64 (B : Int), .int .i64 C, .int .i64 W, .int .i64 U] 25)) := (Keep.refl _ _).alloc _
      obtain ⟨w1, hw1⟩ : ∃ w1, w1 = w.alloc (.cells #[.int .u64 (B : Int), .int .i64 C, .int .i64 W, .int .i64 U] 25) := ⟨_, rfl⟩
      rw [← hw1] at hg hk1 ⊢
      clear hw1
      refine (K1.out w1).mono ?_
      rintro e w2 ⟨ao2, c2, rfl, hr2, hk2⟩
      have hg2 := hk2.get hg id
      obtain ⟨i0, i1, i2, i3, if1, ib1⟩ := cells4 hg2
      have HR2 := hid hr2
      clear hr2
      go_wp2_with (at_builtin; refine stopAt ?_; intro q hq)
      refine (K2.out w2).mono ?_
      rintro e w3 ⟨ao3, c3, rfl, hr3, hk3⟩
      have hg3 := hk3.get hg2 id
      clear i0 i1 i2 i3 if1 ib1
      obtain ⟨i0, i1, i2, i3, if1, ib1⟩ := cells4 hg3
      have HR3 := hid hr3
      clear hr3
      go_wp2_with (at_builtin; refine stopAt ?_; intro q hq)
      refine (K3.out w3).mono ?_
      rintro e w4 ⟨ao4, c4, rfl, hr4, hk4⟩
      have hg4 := hk4.get hg3 id
      clear i0 i1 i2 i3 if1 ib1
      obtain ⟨i0, i1, i2, i3, if1, ib1⟩ := cells4 hg4
      have HR4 := hid hr4
      clear hr4
      go_wp2_with (at_builtin; refine stopAt ?_; intro q hq)
      refine (K4.out w4).mono ?_
      rintro e w5 ⟨ao5, c5, rfl, hr5, hk5⟩
      have HR5 := hid hr5
      have hp2 := ((HR2.out.keep hk3 (fun _ _ x => x)).keep hk4 (fun _ _ x => x)).keep hk5 (fun _ _ x => x)
      have hp3 := (HR3.out.keep hk4 (fun _ _ x => x)).keep hk5 (fun _ _ x => x)
      have hp4 := HR4.out.keep hk5 (fun _ _ x => x)
      have hsame := hid (same_pcs w5 ao2 ao3 c2 c3 l hp2 hp3)
      have HP4 := hid (And.intro hp4 hr5)
      have k05 := hid ((((hk1.next hk2 (fun _ _ x => x) (fun _ _ x => x)).next hk3 (fun _ _ x => x) (fun _ _ x => x)).next hk4 (fun _ _ x => x) (fun _ _ x => x)).next hk5 (fun _ _ x => x) (fun _ _ x => x))
      clear i0 i1 i2 i3 if1 ib1 hg hg2 hg3 hg4 hk1 hk2 hk3 hk4 hk5 hp2 hp3 hp4 hr5 HR2 HR3 HR4 HR5
      go_wp2_with (at_builtin; refine stopAt ?_; intro q hq)
      refine hsame.out.mono ?_
      rintro e w6 ⟨rfl, hk6⟩
      have hsn := hid (same_nums w6 ao4 ao5 c4 c5 t (HP4.out.1.keep hk6 (fun _ _ x => x)) (HP4.out.2.keep hk6 (fun _ _ x => x)))
      have K6 := hid (k05.out.next hk6 (fun _ _ x => x) (fun _ _ x => x))
      clear hk6
      go_wp2_with (at_builtin; refine stopAt ?_; intro q hq)
      refine hsn.out.mono ?_
      rintro e w7 ⟨rfl, hk7⟩
      have K7 := hid (K6.out.next hk7 (fun _ _ x => x) (fun _ _ x => x))
      clear hk7
      go_wp2_with (at_builtin; refine stopAt ?_; intro q hq)
      refine (known_any w7).mono ?_
      rintro e w9 ⟨rfl, hk9⟩
      have K9 := hid (K7.out.next hk9 (fun _ _ x => x) (fun _ _ x => x))
      clear hk9
      go_wp2_with (at_builtin; refine stopAt ?_; intro q hq)
      go_ret
      exact ⟨by rfl, K9.out⟩
end Go.Proofs.Ytmbfglblkpipcaa
