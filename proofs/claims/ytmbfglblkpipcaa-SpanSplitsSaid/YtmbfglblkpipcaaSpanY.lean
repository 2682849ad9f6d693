/- SpanPlaces: what both answer, the same at every shape and every argument; the walk. Conditions: none but the arguments' own kinds. -/
import Derived.Test.YtmbfglblkpipcaaSpanX
import Derived.Test.YtmbfglblkpipcaaSpanK

namespace Go.Proofs.Ytmbfglblkpipcaa
open Go.RowKit
open SM

set_option maxRecDepth 20000 in
theorem shape_cases (B : Nat) (C W U : Int) (hB : B ≤ 18446744073709551615) : (∃ c w u : Nat, C = c ∧ W = w ∧ U = u ∧ ShOk B c w u) ∨
    ((∀ w', Calls Try.prog 16 #[.agg #[.int .u64 (B : Int), .int .i64 C, .int .i64 W, .int .i64 U]] w' fun e w2 => e = .returned (.int .i64 170) ∧ Keep (fun _ => False) w' w2) ∧ (∀ w', Calls Try.prog 17 #[.agg #[.int .u64 (B : Int), .int .i64 C, .int .i64 W, .int .i64 U]] w' fun e w2 => e = .returned (.int .i64 170) ∧ Keep (fun _ => False) w' w2)) := by
  by_cases h1 : U < 1
  · exact .inr ⟨bad_u0 B C W U h1, rbad_u0 B C W U h1⟩
  by_cases h2 : 256 < U
  · exact .inr ⟨bad_u1 B C W U h2, rbad_u1 B C W U h2⟩
  obtain ⟨u, rfl⟩ : ∃ u : Nat, (u : Int) = U := ⟨U.toNat, by omega⟩
  by_cases h3 : C < 1
  · exact .inr ⟨bad_c0 B C W u (by omega) (by omega) h3, rbad_c0 B C W u (by omega) (by omega) h3⟩
  by_cases h4 : 65536 < C
  · exact .inr ⟨bad_c1 B C W u (by omega) (by omega) h4, rbad_c1 B C W u (by omega) (by omega) h4⟩
  obtain ⟨c, rfl⟩ : ∃ c : Nat, (c : Int) = C := ⟨C.toNat, by omega⟩
  have u0 : 1 ≤ u := by omega
  have u1 : u ≤ 256 := by omega
  have c0 : 1 ≤ c := by omega
  have c1 : c ≤ 65536 := by omega
  by_cases h5 : W < 1
  · refine .inr ⟨?_, rbad_w0 B W c u u0 u1 c0 c1 h5⟩
    by_cases hm : c % u = 0
    · exact bad_w0 B W c u u0 u1 c0 c1 hm h5
    · exact bad_cu B W c u u0 u1 c0 c1 hm
  by_cases h6 : 16 < W
  · refine .inr ⟨?_, rbad_w1 B W c u u0 u1 c0 c1 h6⟩
    by_cases hm : c % u = 0
    · exact bad_w1 B W c u u0 u1 c0 c1 hm h6
    · exact bad_cu B W c u u0 u1 c0 c1 hm
  obtain ⟨w, rfl⟩ : ∃ w : Nat, (w : Int) = W := ⟨W.toNat, by omega⟩
  have w0 : 1 ≤ w := by omega
  have w1 : w ≤ 16 := by omega
  by_cases hm : c % u = 0
  · by_cases b0 : B < 1
    · exact .inr ⟨bad_b0 B c w u u0 u1 c0 c1 hm w0 w1 b0, rbad_b0 B c w u u0 u1 c0 c1 hm w0 w1 b0⟩
    by_cases b1 : 1099511627776 < B
    · exact .inr ⟨bad_b1 B c w u u0 u1 c0 c1 hm w0 w1 b1 hB, rbad_b1 B c w u u0 u1 c0 c1 hm w0 w1 b1 hB⟩
    by_cases bs : B % (w * c) = 0
    · by_cases bc : 256 < B / c
      · exact .inr ⟨bad_bc B c w u u0 u1 c0 c1 hm w0 w1 (by omega) (by omega) bs bc, rbad_bc B c w u u0 u1 c0 c1 hm w0 w1 (by omega) (by omega) bs bc⟩
      · exact .inl ⟨c, w, u, rfl, rfl, rfl, u0, u1, c0, c1, hm, w0, w1, by omega, by omega, bs, by omega⟩
    · exact .inr ⟨bad_bs B c w u u0 u1 c0 c1 hm w0 w1 (by omega) (by omega) bs, rbad_bs B c w u u0 u1 c0 c1 hm w0 w1 (by omega) (by omega) bs⟩
  · exact .inr ⟨bad_cu B w c u u0 u1 c0 c1 hm, rbad_cu B c w u u0 u1 c0 c1 w0 w1 hm⟩

set_option maxRecDepth 20000 in
theorem chunks_bad (B : Nat) (C W U : Int) (h : ∀ w', Calls Try.prog 16 #[.agg #[.int .u64 (B : Int), .int .i64 C, .int .i64 W, .int .i64 U]] w' fun e w2 => e = .returned (.int .i64 170) ∧ Keep (fun _ => False) w' w2) (w : World) :
    Calls Try.prog 18 #[.agg #[.int .u64 (B : Int), .int .i64 C, .int .i64 W, .int .i64 U]] w fun e w2 => e = .returned (.int .i64 0) ∧ Keep (fun _ => False) w w2 := by
  go_enter Try.func18, Try.ntmps18
  go_wp2_with (at_builtin; refine stopAt ?_; intro q hq)
  have hk1 : Keep (fun _ => False) w (w.alloc (.cells #[.int .u64 (B : Int), .int .i64 C, .int .i64 W, .int .i64 U] 25)) := (Keep.refl _ _).alloc _
  obtain ⟨w1, hw1⟩ : ∃ w1, w1 = w.alloc (.cells #[.int .u64 (B : Int), .int .i64 C, .int .i64 W, .int .i64 U] 25) := ⟨_, rfl⟩
  rw [← hw1] at hk1 ⊢
  clear hw1
  refine (h w1).mono ?_
  rintro e w2 ⟨rfl, hk2⟩
  have K2 := hid (hk1.next hk2 (fun _ _ x => x) (fun _ _ x => x))
  clear hk1 hk2
  go_wp2_with (at_builtin; refine stopAt ?_; intro q hq)
  go_ret
  exact ⟨by rfl, K2.out⟩

set_option maxRecDepth 20000 in
theorem where_bad (B : Nat) (C W U : Int) (x : Int) (h : ∀ w', Calls Try.prog 16 #[.agg #[.int .u64 (B : Int), .int .i64 C, .int .i64 W, .int .i64 U]] w' fun e w2 => e = .returned (.int .i64 170) ∧ Keep (fun _ => False) w' w2) (w : World) :
    Calls Try.prog 12 #[.agg #[.int .u64 (B : Int), .int .i64 C, .int .i64 W, .int .i64 U], .int .u64 x] w fun e w2 => e = .returned (.tuple #[.int .i64 0, .int .i64 0, .int .i64 170]) ∧ Keep (fun _ => False) w w2 := by
  go_enter Try.func12, Try.ntmps12
  go_wp2_with (at_builtin; refine stopAt ?_; intro q hq)
  have hk1 : Keep (fun _ => False) w (w.alloc (.cells #[.int .u64 (B : Int), .int .i64 C, .int .i64 W, .int .i64 U] 25)) := (Keep.refl _ _).alloc _
  obtain ⟨w1, hw1⟩ : ∃ w1, w1 = w.alloc (.cells #[.int .u64 (B : Int), .int .i64 C, .int .i64 W, .int .i64 U] 25) := ⟨_, rfl⟩
  rw [← hw1] at hk1 ⊢
  clear hw1
  refine (h w1).mono ?_
  rintro e w2 ⟨rfl, hk2⟩
  have K2 := hid (hk1.next hk2 (fun _ _ x => x) (fun _ _ x => x))
  clear hk1 hk2
  go_wp2_with (at_builtin; refine stopAt ?_; intro q hq)
  go_ret3
  exact ⟨by rfl, K2.out⟩

set_option maxRecDepth 20000 in
theorem back_bad (B : Nat) (C W U : Int) (c a : Int) (h : ∀ w', Calls Try.prog 16 #[.agg #[.int .u64 (B : Int), .int .i64 C, .int .i64 W, .int .i64 U]] w' fun e w2 => e = .returned (.int .i64 170) ∧ Keep (fun _ => False) w' w2) (w : World) :
    Calls Try.prog 14 #[.agg #[.int .u64 (B : Int), .int .i64 C, .int .i64 W, .int .i64 U], .int .i64 c, .int .i64 a] w fun e w2 => e = .returned (.tuple #[.int .u64 0, .int .i64 170]) ∧ Keep (fun _ => False) w w2 := by
  go_enter Try.func14, Try.ntmps14
  go_wp2_with (at_builtin; refine stopAt ?_; intro q hq)
  have hk1 : Keep (fun _ => False) w (w.alloc (.cells #[.int .u64 (B : Int), .int .i64 C, .int .i64 W, .int .i64 U] 25)) := (Keep.refl _ _).alloc _
  obtain ⟨w1, hw1⟩ : ∃ w1, w1 = w.alloc (.cells #[.int .u64 (B : Int), .int .i64 C, .int .i64 W, .int .i64 U] 25) := ⟨_, rfl⟩
  rw [← hw1] at hk1 ⊢
  clear hw1
  refine (h w1).mono ?_
  rintro e w2 ⟨rfl, hk2⟩
  have K2 := hid (hk1.next hk2 (fun _ _ x => x) (fun _ _ x => x))
  clear hk1 hk2
  go_wp2_with (at_builtin; refine stopAt ?_; intro q hq)
  go_ret2
  exact ⟨by rfl, K2.out⟩

set_option maxRecDepth 20000 in
theorem rchunks_bad (B : Nat) (C W U : Int) (h : ∀ w', Calls Try.prog 17 #[.agg #[.int .u64 (B : Int), .int .i64 C, .int .i64 W, .int .i64 U]] w' fun e w2 => e = .returned (.int .i64 170) ∧ Keep (fun _ => False) w' w2) (w : World) :
    Calls Try.prog 19 #[.agg #[.int .u64 (B : Int), .int .i64 C, .int .i64 W, .int .i64 U]] w fun e w2 => e = .returned (.int .i64 0) ∧ Keep (fun _ => False) w w2 := by
  go_enter Try.func19, Try.ntmps19
  go_wp2_with (at_builtin; refine stopAt ?_; intro q hq)
  have hk1 : Keep (fun _ => False) w (w.alloc (.cells #[.int .u64 (B : Int), .int .i64 C, .int .i64 W, .int .i64 U] 25)) := (Keep.refl _ _).alloc _
  obtain ⟨w1, hw1⟩ : ∃ w1, w1 = w.alloc (.cells #[.int .u64 (B : Int), .int .i64 C, .int .i64 W, .int .i64 U] 25) := ⟨_, rfl⟩
  rw [← hw1] at hk1 ⊢
  clear hw1
  refine (h w1).mono ?_
  rintro e w2 ⟨rfl, hk2⟩
  have K2 := hid (hk1.next hk2 (fun _ _ x => x) (fun _ _ x => x))
  clear hk1 hk2
  go_wp2_with (at_builtin; refine stopAt ?_; intro q hq)
  go_ret
  exact ⟨by rfl, K2.out⟩

set_option maxRecDepth 20000 in
theorem rwhere_bad (B : Nat) (C W U : Int) (x : Int) (h : ∀ w', Calls Try.prog 17 #[.agg #[.int .u64 (B : Int), .int .i64 C, .int .i64 W, .int .i64 U]] w' fun e w2 => e = .returned (.int .i64 170) ∧ Keep (fun _ => False) w' w2) (w : World) :
    Calls Try.prog 13 #[.agg #[.int .u64 (B : Int), .int .i64 C, .int .i64 W, .int .i64 U], .int .u64 x] w fun e w2 => e = .returned (.tuple #[.int .i64 0, .int .i64 0, .int .i64 170]) ∧ Keep (fun _ => False) w w2 := by
  go_enter Try.func13, Try.ntmps13
  go_wp2_with (at_builtin; refine stopAt ?_; intro q hq)
  have hk1 : Keep (fun _ => False) w (w.alloc (.cells #[.int .u64 (B : Int), .int .i64 C, .int .i64 W, .int .i64 U] 25)) := (Keep.refl _ _).alloc _
  obtain ⟨w1, hw1⟩ : ∃ w1, w1 = w.alloc (.cells #[.int .u64 (B : Int), .int .i64 C, .int .i64 W, .int .i64 U] 25) := ⟨_, rfl⟩
  rw [← hw1] at hk1 ⊢
  clear hw1
  refine (h w1).mono ?_
  rintro e w2 ⟨rfl, hk2⟩
  have K2 := hid (hk1.next hk2 (fun _ _ x => x) (fun _ _ x => x))
  clear hk1 hk2
  go_wp2_with (at_builtin; refine stopAt ?_; intro q hq)
  go_ret3
  exact ⟨by rfl, K2.out⟩

set_option maxRecDepth 20000 in
theorem rback_bad (B : Nat) (C W U : Int) (c a : Int) (h : ∀ w', Calls Try.prog 17 #[.agg #[.int .u64 (B : Int), .int .i64 C, .int .i64 W, .int .i64 U]] w' fun e w2 => e = .returned (.int .i64 170) ∧ Keep (fun _ => False) w' w2) (w : World) :
    Calls Try.prog 15 #[.agg #[.int .u64 (B : Int), .int .i64 C, .int .i64 W, .int .i64 U], .int .i64 c, .int .i64 a] w fun e w2 => e = .returned (.tuple #[.int .u64 0, .int .i64 170]) ∧ Keep (fun _ => False) w w2 := by
  go_enter Try.func15, Try.ntmps15
  go_wp2_with (at_builtin; refine stopAt ?_; intro q hq)
  have hk1 : Keep (fun _ => False) w (w.alloc (.cells #[.int .u64 (B : Int), .int .i64 C, .int .i64 W, .int .i64 U] 25)) := (Keep.refl _ _).alloc _
  obtain ⟨w1, hw1⟩ : ∃ w1, w1 = w.alloc (.cells #[.int .u64 (B : Int), .int .i64 C, .int .i64 W, .int .i64 U] 25) := ⟨_, rfl⟩
  rw [← hw1] at hk1 ⊢
  clear hw1
  refine (h w1).mono ?_
  rintro e w2 ⟨rfl, hk2⟩
  have K2 := hid (hk1.next hk2 (fun _ _ x => x) (fun _ _ x => x))
  clear hk1 hk2
  go_wp2_with (at_builtin; refine stopAt ?_; intro q hq)
  go_ret2
  exact ⟨by rfl, K2.out⟩

set_option maxRecDepth 20000 in
theorem where_past (B C W U x : Nat) (h : ShOk B C W U) (hx : B ≤ x) (w : World) :
    Calls Try.prog 12 #[.agg #[.int .u64 (B : Int), .int .i64 (C : Int), .int .i64 (W : Int), .int .i64 (U : Int)], .int .u64 (x : Int)] w fun e w2 => e = .returned (.tuple #[.int .i64 0, .int .i64 0, .int .i64 171]) ∧ Keep (fun _ => False) w w2 := by
  have d1 : decide (B ≤ x) = true := by simp; omega
  go_enter Try.func12, Try.ntmps12
  go_wp2_with (at_builtin; refine stopAt ?_; intro q hq)
  (obtain ⟨w1, hbox⟩ : ∃ wbx, wbx = w.alloc (.cells #[.int .u64 B, .int .i64 C, .int .i64 W, .int .i64 U] 25) := ⟨_, rfl⟩; have X1 := Boxed.new w B C W U; rw [← hbox] at X1 ⊢; clear hbox)
  refine (check_ok B C W U h w1).mono ?_
  rintro e w2 ⟨rfl, hk2⟩
  have X2 := X1.step hk2
  obtain ⟨i0, i1, i2, i3, if1, ib1⟩ := cells4 X2.at_
  have K2 := hid X2.keep
  clear X1 X2 hk2
  go_wp2_with (at_builtin; refine stopAt ?_; intro q hq)
  go_ret3
  exact ⟨rfl, K2.out⟩

set_option maxRecDepth 20000 in
theorem back_c0 (B C W U : Nat) (c a : Int) (h : ShOk B C W U) (g1 : c < 0) (w : World) :
    Calls Try.prog 14 #[.agg #[.int .u64 (B : Int), .int .i64 (C : Int), .int .i64 (W : Int), .int .i64 (U : Int)], .int .i64 c, .int .i64 a] w fun e w2 => e = .returned (.tuple #[.int .u64 0, .int .i64 2]) ∧ Keep (fun _ => False) w w2 := by
  have d0 : decide (c < 0) = true := by simp; omega
  go_enter Try.func14, Try.ntmps14
  go_wp2_with (at_builtin; refine stopAt ?_; intro q hq)
  (obtain ⟨w1, hbox⟩ : ∃ wbx, wbx = w.alloc (.cells #[.int .u64 B, .int .i64 C, .int .i64 W, .int .i64 U] 25) := ⟨_, rfl⟩; have X1 := Boxed.new w B C W U; rw [← hbox] at X1 ⊢; clear hbox)
  refine (check_ok B C W U h w1).mono ?_
  rintro e w2 ⟨rfl, hk2⟩
  have X2 := X1.step hk2
  obtain ⟨i0, i1, i2, i3, if1, ib1⟩ := cells4 X2.at_
  clear X1 hk2
  go_wp2_with (at_builtin; refine stopAt ?_; intro q hq)
  go_ret2
  exact ⟨rfl, X2.keep⟩

set_option maxRecDepth 20000 in
theorem back_c1 (B C W U : Nat) (c a : Int) (h : ShOk B C W U) (g1 : 0 ≤ c) (g2 : ((B / C : Nat) : Int) ≤ c) (w : World) :
    Calls Try.prog 14 #[.agg #[.int .u64 (B : Int), .int .i64 (C : Int), .int .i64 (W : Int), .int .i64 (U : Int)], .int .i64 c, .int .i64 a] w fun e w2 => e = .returned (.tuple #[.int .u64 0, .int .i64 2]) ∧ Keep (fun _ => False) w w2 := by
  have d0 : decide (c < 0) = false := by simp; omega
  go_enter Try.func14, Try.ntmps14
  go_wp2_with (at_builtin; refine stopAt ?_; intro q hq)
  (obtain ⟨w1, hbox⟩ : ∃ wbx, wbx = w.alloc (.cells #[.int .u64 B, .int .i64 C, .int .i64 W, .int .i64 U] 25) := ⟨_, rfl⟩; have X1 := Boxed.new w B C W U; rw [← hbox] at X1 ⊢; clear hbox)
  refine (check_ok B C W U h w1).mono ?_
  rintro e w2 ⟨rfl, hk2⟩
  have X2 := X1.step hk2
  obtain ⟨i0, i1, i2, i3, if1, ib1⟩ := cells4 X2.at_
  clear X1 hk2
  go_wp2_with (at_builtin; refine stopAt ?_; intro q hq)
  refine (chunks_ok B C W U h w2).mono ?_
  rintro e w3 ⟨rfl, hk3⟩
  have X3 := X2.step hk3
  clear i0 i1 i2 i3 if1 ib1 hk3 X2
  obtain ⟨i0, i1, i2, i3, if1, ib1⟩ := cells4 X3.at_
  obtain ⟨q, hq⟩ : ∃ q, q = B / C := ⟨_, rfl⟩
  rw [← hq] at g2 ⊢
  clear hq
  have f0 : decide ((q : Int) ≤ c) = true := by simp; omega
  have K3 := hid X3.keep
  clear X3
  go_wp2_with (at_builtin; refine stopAt ?_; intro q hq)
  go_ret2
  exact ⟨rfl, K3.out⟩

set_option maxRecDepth 20000 in
theorem back_a0 (B C W U : Nat) (c a : Int) (h : ShOk B C W U) (g1 : 0 ≤ c) (g2 : c < ((B / C : Nat) : Int)) (g3 : a < 0) (w : World) :
    Calls Try.prog 14 #[.agg #[.int .u64 (B : Int), .int .i64 (C : Int), .int .i64 (W : Int), .int .i64 (U : Int)], .int .i64 c, .int .i64 a] w fun e w2 => e = .returned (.tuple #[.int .u64 0, .int .i64 2]) ∧ Keep (fun _ => False) w w2 := by
  have d0 : decide (c < 0) = false := by simp; omega
  have d1 : decide (a < 0) = true := by simp; omega
  go_enter Try.func14, Try.ntmps14
  go_wp2_with (at_builtin; refine stopAt ?_; intro q hq)
  (obtain ⟨w1, hbox⟩ : ∃ wbx, wbx = w.alloc (.cells #[.int .u64 B, .int .i64 C, .int .i64 W, .int .i64 U] 25) := ⟨_, rfl⟩; have X1 := Boxed.new w B C W U; rw [← hbox] at X1 ⊢; clear hbox)
  refine (check_ok B C W U h w1).mono ?_
  rintro e w2 ⟨rfl, hk2⟩
  have X2 := X1.step hk2
  obtain ⟨i0, i1, i2, i3, if1, ib1⟩ := cells4 X2.at_
  clear X1 hk2
  go_wp2_with (at_builtin; refine stopAt ?_; intro q hq)
  refine (chunks_ok B C W U h w2).mono ?_
  rintro e w3 ⟨rfl, hk3⟩
  have X3 := X2.step hk3
  clear i0 i1 i2 i3 if1 ib1 hk3 X2
  obtain ⟨i0, i1, i2, i3, if1, ib1⟩ := cells4 X3.at_
  obtain ⟨q, hq⟩ : ∃ q, q = B / C := ⟨_, rfl⟩
  rw [← hq] at g2 ⊢
  clear hq
  have f0 : decide ((q : Int) ≤ c) = false := by simp; omega
  have K3 := hid X3.keep
  clear X3
  go_wp2_with (at_builtin; refine stopAt ?_; intro q hq)
  go_ret2
  exact ⟨rfl, K3.out⟩

set_option maxRecDepth 20000 in
theorem back_a1 (B C W U : Nat) (c a : Int) (h : ShOk B C W U) (g1 : 0 ≤ c) (g2 : c < ((B / C : Nat) : Int)) (g3 : (C : Int) ≤ a) (w : World) :
    Calls Try.prog 14 #[.agg #[.int .u64 (B : Int), .int .i64 (C : Int), .int .i64 (W : Int), .int .i64 (U : Int)], .int .i64 c, .int .i64 a] w fun e w2 => e = .returned (.tuple #[.int .u64 0, .int .i64 2]) ∧ Keep (fun _ => False) w w2 := by
  have d0 : decide (c < 0) = false := by simp; omega
  have d1 : decide (a < 0) = false := by simp; omega
  have d2 : decide ((C : Int) ≤ a) = true := by simp; omega
  go_enter Try.func14, Try.ntmps14
  go_wp2_with (at_builtin; refine stopAt ?_; intro q hq)
  (obtain ⟨w1, hbox⟩ : ∃ wbx, wbx = w.alloc (.cells #[.int .u64 B, .int .i64 C, .int .i64 W, .int .i64 U] 25) := ⟨_, rfl⟩; have X1 := Boxed.new w B C W U; rw [← hbox] at X1 ⊢; clear hbox)
  refine (check_ok B C W U h w1).mono ?_
  rintro e w2 ⟨rfl, hk2⟩
  have X2 := X1.step hk2
  obtain ⟨i0, i1, i2, i3, if1, ib1⟩ := cells4 X2.at_
  clear X1 hk2
  go_wp2_with (at_builtin; refine stopAt ?_; intro q hq)
  refine (chunks_ok B C W U h w2).mono ?_
  rintro e w3 ⟨rfl, hk3⟩
  have X3 := X2.step hk3
  clear i0 i1 i2 i3 if1 ib1 hk3 X2
  obtain ⟨i0, i1, i2, i3, if1, ib1⟩ := cells4 X3.at_
  obtain ⟨q, hq⟩ : ∃ q, q = B / C := ⟨_, rfl⟩
  rw [← hq] at g2 ⊢
  clear hq
  have f0 : decide ((q : Int) ≤ c) = false := by simp; omega
  have K3 := hid X3.keep
  clear X3
  go_wp2_with (at_builtin; refine stopAt ?_; intro q hq)
  go_ret2
  exact ⟨rfl, K3.out⟩

set_option maxRecDepth 20000 in
theorem rwhere_past (B C W U x : Nat) (h : ShOk B C W U) (hx : B ≤ x) (w : World) :
    Calls Try.prog 13 #[.agg #[.int .u64 (B : Int), .int .i64 (C : Int), .int .i64 (W : Int), .int .i64 (U : Int)], .int .u64 (x : Int)] w fun e w2 => e = .returned (.tuple #[.int .i64 0, .int .i64 0, .int .i64 171]) ∧ Keep (fun _ => False) w w2 := by
  have d1 : decide (B ≤ x) = true := by simp; omega
  go_enter Try.func13, Try.ntmps13
  go_wp2_with (at_builtin; refine stopAt ?_; intro q hq)
  (obtain ⟨w1, hbox⟩ : ∃ wbx, wbx = w.alloc (.cells #[.int .u64 B, .int .i64 C, .int .i64 W, .int .i64 U] 25) := ⟨_, rfl⟩; have X1 := Boxed.new w B C W U; rw [← hbox] at X1 ⊢; clear hbox)
  refine (rcheck_ok B C W U h w1).mono ?_
  rintro e w2 ⟨rfl, hk2⟩
  have X2 := X1.step hk2
  obtain ⟨i0, i1, i2, i3, if1, ib1⟩ := cells4 X2.at_
  have K2 := hid X2.keep
  clear X1 X2 hk2
  go_wp2_with (at_builtin; refine stopAt ?_; intro q hq)
  go_ret3
  exact ⟨rfl, K2.out⟩

set_option maxRecDepth 20000 in
theorem rback_c0 (B C W U : Nat) (c a : Int) (h : ShOk B C W U) (g1 : c < 0) (w : World) :
    Calls Try.prog 15 #[.agg #[.int .u64 (B : Int), .int .i64 (C : Int), .int .i64 (W : Int), .int .i64 (U : Int)], .int .i64 c, .int .i64 a] w fun e w2 => e = .returned (.tuple #[.int .u64 0, .int .i64 2]) ∧ Keep (fun _ => False) w w2 := by
  have d0 : decide (c < 0) = true := by simp; omega
  go_enter Try.func15, Try.ntmps15
  go_wp2_with (at_builtin; refine stopAt ?_; intro q hq)
  (obtain ⟨w1, hbox⟩ : ∃ wbx, wbx = w.alloc (.cells #[.int .u64 B, .int .i64 C, .int .i64 W, .int .i64 U] 25) := ⟨_, rfl⟩; have X1 := Boxed.new w B C W U; rw [← hbox] at X1 ⊢; clear hbox)
  refine (rcheck_ok B C W U h w1).mono ?_
  rintro e w2 ⟨rfl, hk2⟩
  have X2 := X1.step hk2
  obtain ⟨i0, i1, i2, i3, if1, ib1⟩ := cells4 X2.at_
  clear X1 hk2
  go_wp2_with (at_builtin; refine stopAt ?_; intro q hq)
  go_ret2
  exact ⟨rfl, X2.keep⟩

set_option maxRecDepth 20000 in
theorem rback_a0 (B C W U : Nat) (c a : Int) (h : ShOk B C W U) (g1 : 0 ≤ c) (g3 : a < 0) (w : World) :
    Calls Try.prog 15 #[.agg #[.int .u64 (B : Int), .int .i64 (C : Int), .int .i64 (W : Int), .int .i64 (U : Int)], .int .i64 c, .int .i64 a] w fun e w2 => e = .returned (.tuple #[.int .u64 0, .int .i64 2]) ∧ Keep (fun _ => False) w w2 := by
  have d0 : decide (c < 0) = false := by simp; omega
  have d1 : decide (a < 0) = true := by simp; omega
  go_enter Try.func15, Try.ntmps15
  go_wp2_with (at_builtin; refine stopAt ?_; intro q hq)
  (obtain ⟨w1, hbox⟩ : ∃ wbx, wbx = w.alloc (.cells #[.int .u64 B, .int .i64 C, .int .i64 W, .int .i64 U] 25) := ⟨_, rfl⟩; have X1 := Boxed.new w B C W U; rw [← hbox] at X1 ⊢; clear hbox)
  refine (rcheck_ok B C W U h w1).mono ?_
  rintro e w2 ⟨rfl, hk2⟩
  have X2 := X1.step hk2
  obtain ⟨i0, i1, i2, i3, if1, ib1⟩ := cells4 X2.at_
  clear X1 hk2
  go_wp2_with (at_builtin; refine stopAt ?_; intro q hq)
  go_ret2
  exact ⟨rfl, X2.keep⟩

set_option maxRecDepth 20000 in
theorem rback_a1 (B C W U : Nat) (c a : Int) (h : ShOk B C W U) (g1 : 0 ≤ c) (g3 : (C : Int) ≤ a) (w : World) :
    Calls Try.prog 15 #[.agg #[.int .u64 (B : Int), .int .i64 (C : Int), .int .i64 (W : Int), .int .i64 (U : Int)], .int .i64 c, .int .i64 a] w fun e w2 => e = .returned (.tuple #[.int .u64 0, .int .i64 2]) ∧ Keep (fun _ => False) w w2 := by
  have d0 : decide (c < 0) = false := by simp; omega
  have d1 : decide (a < 0) = false := by simp; omega
  have d2 : decide ((C : Int) ≤ a) = true := by simp; omega
  go_enter Try.func15, Try.ntmps15
  go_wp2_with (at_builtin; refine stopAt ?_; intro q hq)
  (obtain ⟨w1, hbox⟩ : ∃ wbx, wbx = w.alloc (.cells #[.int .u64 B, .int .i64 C, .int .i64 W, .int .i64 U] 25) := ⟨_, rfl⟩; have X1 := Boxed.new w B C W U; rw [← hbox] at X1 ⊢; clear hbox)
  refine (rcheck_ok B C W U h w1).mono ?_
  rintro e w2 ⟨rfl, hk2⟩
  have X2 := X1.step hk2
  obtain ⟨i0, i1, i2, i3, if1, ib1⟩ := cells4 X2.at_
  clear X1 hk2
  go_wp2_with (at_builtin; refine stopAt ?_; intro q hq)
  go_ret2
  exact ⟨rfl, X2.keep⟩

set_option maxRecDepth 20000 in
theorem rback_c1 (B C W U : Nat) (c a : Int) (h : ShOk B C W U) (g1 : 0 ≤ c) (g3 : 0 ≤ a) (g4 : a < (C : Int)) (g2 : ((B / C : Nat) : Int) ≤ c) (w : World) :
    Calls Try.prog 15 #[.agg #[.int .u64 (B : Int), .int .i64 (C : Int), .int .i64 (W : Int), .int .i64 (U : Int)], .int .i64 c, .int .i64 a] w fun e w2 => e = .returned (.tuple #[.int .u64 0, .int .i64 2]) ∧ Keep (fun _ => False) w w2 := by
  have d0 : decide (c < 0) = false := by simp; omega
  have d1 : decide (a < 0) = false := by simp; omega
  have d2 : decide ((C : Int) ≤ a) = false := by simp; omega
  go_enter Try.func15, Try.ntmps15
  go_wp2_with (at_builtin; refine stopAt ?_; intro q hq)
  (obtain ⟨w1, hbox⟩ : ∃ wbx, wbx = w.alloc (.cells #[.int .u64 B, .int .i64 C, .int .i64 W, .int .i64 U] 25) := ⟨_, rfl⟩; have X1 := Boxed.new w B C W U; rw [← hbox] at X1 ⊢; clear hbox)
  refine (rcheck_ok B C W U h w1).mono ?_
  rintro e w2 ⟨rfl, hk2⟩
  have X2 := X1.step hk2
  obtain ⟨i0, i1, i2, i3, if1, ib1⟩ := cells4 X2.at_
  clear X1 hk2
  go_wp2_with (at_builtin; refine stopAt ?_; intro q hq)
  refine (rchunks_ok B C W U h w2).mono ?_
  rintro e w3 ⟨rfl, hk3⟩
  have X3 := X2.step hk3
  clear i0 i1 i2 i3 if1 ib1 hk3 X2
  obtain ⟨i0, i1, i2, i3, if1, ib1⟩ := cells4 X3.at_
  obtain ⟨q, hq⟩ : ∃ q, q = B / C := ⟨_, rfl⟩
  rw [← hq] at g2 ⊢
  clear hq
  have f0 : decide ((q : Int) ≤ c) = true := by simp; omega
  have K3 := hid X3.keep
  clear X3
  go_wp2_with (at_builtin; refine stopAt ?_; intro q hq)
  go_ret2
  exact ⟨rfl, K3.out⟩

set_option maxRecDepth 20000 in
/-- Both answer the same, whatever they are asked. -/
theorem both (B : Nat) (C W U : Int) (x : Nat) (c a : Int) (hB : B ≤ 18446744073709551615) :
    (∃ er : Int, (∀ w, Calls Try.prog 16 #[.agg #[.int .u64 (B : Int), .int .i64 C, .int .i64 W, .int .i64 U]] w fun e w2 => e = .returned (.int .i64 er) ∧ Keep (fun _ => False) w w2) ∧ ∀ w, Calls Try.prog 17 #[.agg #[.int .u64 (B : Int), .int .i64 C, .int .i64 W, .int .i64 U]] w fun e w2 => e = .returned (.int .i64 er) ∧ Keep (fun _ => False) w w2) ∧
    (∃ n : Int, (∀ w, Calls Try.prog 18 #[.agg #[.int .u64 (B : Int), .int .i64 C, .int .i64 W, .int .i64 U]] w fun e w2 => e = .returned (.int .i64 n) ∧ Keep (fun _ => False) w w2) ∧ ∀ w, Calls Try.prog 19 #[.agg #[.int .u64 (B : Int), .int .i64 C, .int .i64 W, .int .i64 U]] w fun e w2 => e = .returned (.int .i64 n) ∧ Keep (fun _ => False) w w2) ∧
    (∃ p q er : Int, (∀ w, Calls Try.prog 12 #[.agg #[.int .u64 (B : Int), .int .i64 C, .int .i64 W, .int .i64 U], .int .u64 (x : Int)] w fun e w2 => e = .returned (.tuple #[.int .i64 p, .int .i64 q, .int .i64 er]) ∧ Keep (fun _ => False) w w2) ∧ ∀ w, Calls Try.prog 13 #[.agg #[.int .u64 (B : Int), .int .i64 C, .int .i64 W, .int .i64 U], .int .u64 (x : Int)] w fun e w2 => e = .returned (.tuple #[.int .i64 p, .int .i64 q, .int .i64 er]) ∧ Keep (fun _ => False) w w2) ∧
    (∃ v er : Int, (∀ w, Calls Try.prog 14 #[.agg #[.int .u64 (B : Int), .int .i64 C, .int .i64 W, .int .i64 U], .int .i64 c, .int .i64 a] w fun e w2 => e = .returned (.tuple #[.int .u64 v, .int .i64 er]) ∧ Keep (fun _ => False) w w2) ∧ ∀ w, Calls Try.prog 15 #[.agg #[.int .u64 (B : Int), .int .i64 C, .int .i64 W, .int .i64 U], .int .i64 c, .int .i64 a] w fun e w2 => e = .returned (.tuple #[.int .u64 v, .int .i64 er]) ∧ Keep (fun _ => False) w w2) := by
  rcases shape_cases B C W U hB with ⟨c', w', u', rfl, rfl, rfl, h⟩ | ⟨h1, h2⟩
  · refine ⟨⟨_, check_ok _ _ _ _ h, rcheck_ok _ _ _ _ h⟩, ⟨_, chunks_ok _ _ _ _ h, rchunks_ok _ _ _ _ h⟩, ?_, ?_⟩
    · by_cases hx : x < B
      · exact ⟨_, _, _, where_ok _ _ _ _ _ h hx, rwhere_ok _ _ _ _ _ h hx⟩
      · exact ⟨_, _, _, where_past _ _ _ _ _ h (by omega), rwhere_past _ _ _ _ _ h (by omega)⟩
    · by_cases g1 : c < 0
      · exact ⟨_, _, back_c0 _ _ _ _ c a h g1, rback_c0 _ _ _ _ c a h g1⟩
      by_cases g3 : a < 0
      · refine ⟨_, _, ?_, rback_a0 _ _ _ _ c a h (by omega) g3⟩
        by_cases g2 : ((B / c' : Nat) : Int) ≤ c
        · exact back_c1 _ _ _ _ c a h (by omega) g2
        · exact back_a0 _ _ _ _ c a h (by omega) (by omega) g3
      by_cases g4 : (c' : Int) ≤ a
      · refine ⟨_, _, ?_, rback_a1 _ _ _ _ c a h (by omega) g4⟩
        by_cases g2 : ((B / c' : Nat) : Int) ≤ c
        · exact back_c1 _ _ _ _ c a h (by omega) g2
        · exact back_a1 _ _ _ _ c a h (by omega) (by omega) g4
      by_cases g2 : ((B / c' : Nat) : Int) ≤ c
      · exact ⟨_, _, back_c1 _ _ _ _ c a h (by omega) g2, rback_c1 _ _ _ _ c a h (by omega) (by omega) (by omega) g2⟩
      · obtain ⟨cn, rfl⟩ : ∃ n : Nat, (n : Int) = c := ⟨c.toNat, by omega⟩
        obtain ⟨an, rfl⟩ : ∃ n : Nat, (n : Int) = a := ⟨a.toNat, by omega⟩
        exact ⟨_, _, back_ok _ _ _ _ _ _ h (by omega) (by omega), rback_ok _ _ _ _ _ _ h (by omega) (by omega)⟩
  · exact ⟨⟨_, h1, h2⟩, ⟨_, chunks_bad _ _ _ _ h1, rchunks_bad _ _ _ _ h2⟩, ⟨_, _, _, where_bad _ _ _ _ _ h1, rwhere_bad _ _ _ _ _ h2⟩, ⟨_, _, back_bad _ _ _ _ _ _ h1, rback_bad _ _ _ _ _ _ h2⟩⟩

set_option maxRecDepth 20000 in
set_option maxHeartbeats 1000000 in
theorem places_walk (w : World) (bi C W U : Int) (hb : 0 ≤ bi ∧ bi ≤ 18446744073709551615) (_hC : -9223372036854775808 ≤ C ∧ C ≤ 9223372036854775807) (_hW : -9223372036854775808 ≤ W ∧ W ≤ 9223372036854775807) (_hU : -9223372036854775808 ≤ U ∧ U ≤ 9223372036854775807)
    (xi : Int) (hx0 : 0 ≤ xi) (_hx1 : xi ≤ 18446744073709551615) (c : Int) (_hc0 : -9223372036854775808 ≤ c) (_hc1 : c ≤ 9223372036854775807) (a : Int) (_ha0 : -9223372036854775808 ≤ a) (_ha1 : a ≤ 9223372036854775807) :
    Calls Try.prog 4 #[.agg #[.int .u64 bi, .int .i64 C, .int .i64 W, .int .i64 U], .int .u64 xi, .int .i64 c, .int .i64 a] w fun e w' => e = .returned (.bool true) ∧ Keep (fun _ => False) w w' := by
  obtain ⟨B, rfl⟩ : ∃ n : Nat, (n : Int) = bi := ⟨bi.toNat, by omega⟩
  obtain ⟨x, rfl⟩ : ∃ n : Nat, (n : Int) = xi := ⟨xi.toNat, by omega⟩
  obtain ⟨⟨e1, k1, k2⟩, ⟨n1, k3, k4⟩, ⟨p, q, e2, k5, k6⟩, ⟨v, e3, k7, k8⟩⟩ := both B C W U x c a (by omega)
  have K1 := hid k1
  have K2 := hid k2
  have K3 := hid k3
  have K4 := hid k4
  have K5 := hid k5
  have K6 := hid k6
  have K7 := hid k7
  have K8 := hid k8
  clear k1 k2 k3 k4 k5 k6 k7 k8
  go_enter Try.func4, Try.ntmps4
  go_wp2_with (at_builtin; refine stopAt ?_; intro q hq)
  have hg := heap_alloc_new w (.cells #[.int .u64 (B : Int), .int .i64 C, .int .i64 W, .int .i64 U] 25)
  have hk1 : Keep (fun _ => False) w (w.alloc (.cells #[.int .u64 (B : Int), .int .i64 C, .int .i64 W, .int .i64 U] 25)) := (Keep.refl _ _).alloc _
  obtain ⟨w1, hw1⟩ : ∃ w1, w1 = w.alloc (.cells #[.int .u64 (B : Int), .int .i64 C, .int .i64 W, .int .i64 U] 25) := ⟨_, rfl⟩
  rw [← hw1] at hg hk1 ⊢
  clear hw1
  refine (K5.out w1).mono ?_
  rintro e w2 ⟨rfl, hk2⟩
  have hg2 := hk2.get hg id
  obtain ⟨i0, i1, i2, i3, if1, ib1⟩ := cells4 hg2
  go_wp2_with (at_builtin; refine stopAt ?_; intro q hq)
  refine (K6.out w2).mono ?_
  rintro e w3 ⟨rfl, hk3⟩
  have hg3 := hk3.get hg2 id
  clear i0 i1 i2 i3 if1 ib1
  obtain ⟨i0, i1, i2, i3, if1, ib1⟩ := cells4 hg3
  go_wp2_with (at_builtin; refine stopAt ?_; intro q hq)
  refine (K7.out w3).mono ?_
  rintro e w4 ⟨rfl, hk4⟩
  have hg4 := hk4.get hg3 id
  clear i0 i1 i2 i3 if1 ib1
  obtain ⟨i0, i1, i2, i3, if1, ib1⟩ := cells4 hg4
  go_wp2_with (at_builtin; refine stopAt ?_; intro q hq)
  refine (K8.out w4).mono ?_
  rintro e w5 ⟨rfl, hk5⟩
  have hg5 := hk5.get hg4 id
  clear i0 i1 i2 i3 if1 ib1
  obtain ⟨i0, i1, i2, i3, if1, ib1⟩ := cells4 hg5
  have k05 := hid ((((hk1.next hk2 (fun _ _ x => x) (fun _ _ x => x)).next hk3 (fun _ _ x => x) (fun _ _ x => x)).next hk4 (fun _ _ x => x) (fun _ _ x => x)).next hk5 (fun _ _ x => x) (fun _ _ x => x))
  have j0 := fun s : Later w5 => s.cell i0
  have j1 := fun s : Later w5 => s.cell i1
  have j2 := fun s : Later w5 => s.cell i2
  have j3 := fun s : Later w5 => s.cell i3
  have q1 : (e1 == e1) = true := by simp
  have q2 : (n1 == n1) = true := by simp
  clear i0 i1 i2 i3 if1 ib1 hg hg2 hg3 hg4 hg5 hk1 hk2 hk3 hk4 hk5
  go_wp2_with (at_builtin; refine stopAt ?_; intro q hq)
  (refine wp_region_later (by kernel_rfl) (by kernel_rfl) ?_; (repeat (go_big_quiet_step ((first | (go_at_call 16; exact Later.call (K1.out _)) | (go_at_call 17; exact Later.call (K2.out _)) | (go_at_call 18; exact Later.call (K3.out _)) | (go_at_call 19; exact Later.call (K4.out _)))))); refine wpQuiet_nil ?_; rintro _ ⟨sq, rfl⟩)
  clear j0 j1 j2 j3
  go_wp2_with (at_builtin; refine stopAt ?_; intro q hq)
  refine (known_any sq.val).mono ?_
  rintro e w9 ⟨rfl, hk9⟩
  have K9 := hid ((k05.out.next sq.keep (fun _ _ x => x) (fun _ _ x => x)).next hk9 (fun _ _ x => x) (fun _ _ x => x))
  clear hk9
  go_wp2_with (at_builtin; refine stopAt ?_; intro q hq)
  go_ret
  exact ⟨by rfl, K9.out⟩
end Go.Proofs.Ytmbfglblkpipcaa
