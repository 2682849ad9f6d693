/- span: Check at a shape that may not be, the program's and the document's. Conditions: as each contract names them. -/
import Derived.Test.YtmbfglblkpipcaaSpanR
namespace Go.Proofs.Ytmbfglblkpipcaa
open Go.RowKit
open SM

set_option maxRecDepth 20000 in
theorem bad_u0 (B : Nat) (C W U : Int) (h : U < 1) (w' : World) :
    Calls Try.prog 16 #[.agg #[.int .u64 (B : Int), .int .i64 C, .int .i64 W, .int .i64 U]] w' fun e w2 => e = .returned (.int .i64 170) ∧ Keep (fun _ => False) w' w2 := by
  have d1 : decide (U < 1) = true := by simp; omega
  go_enter Try.func16, Try.ntmps16
  go_wp2_with (at_builtin; refine stopAt ?_; intro q hq)
  go_ret
  exact ⟨by rfl, (Keep.refl _ _).alloc _⟩

set_option maxRecDepth 20000 in
theorem bad_u1 (B : Nat) (C W U : Int) (h : 256 < U) (w' : World) :
    Calls Try.prog 16 #[.agg #[.int .u64 (B : Int), .int .i64 C, .int .i64 W, .int .i64 U]] w' fun e w2 => e = .returned (.int .i64 170) ∧ Keep (fun _ => False) w' w2 := by
  have d1 : decide (U < 1) = false := by simp; omega
  have d2 : decide (256 < U) = true := by simp; omega
  go_enter Try.func16, Try.ntmps16
  go_wp2_with (at_builtin; refine stopAt ?_; intro q hq)
  go_ret
  exact ⟨by rfl, (Keep.refl _ _).alloc _⟩

set_option maxRecDepth 20000 in
theorem bad_c0 (B : Nat) (C W : Int) (u : Nat) (hu0 : 1 ≤ u) (hu1 : u ≤ 256) (h : C < 1) (w' : World) :
    Calls Try.prog 16 #[.agg #[.int .u64 (B : Int), .int .i64 C, .int .i64 W, .int .i64 (u : Int)]] w' fun e w2 => e = .returned (.int .i64 170) ∧ Keep (fun _ => False) w' w2 := by
  have d1 : decide ((u : Int) < 1) = false := by simp; omega
  have d2 : decide ((256 : Int) < u) = false := by simp; omega
  have d3 : decide (C < 1) = true := by simp; omega
  go_enter Try.func16, Try.ntmps16
  go_wp2_with (at_builtin; refine stopAt ?_; intro q hq)
  go_ret
  exact ⟨by rfl, (Keep.refl _ _).alloc _⟩

set_option maxRecDepth 20000 in
theorem bad_c1 (B : Nat) (C W : Int) (u : Nat) (hu0 : 1 ≤ u) (hu1 : u ≤ 256) (h : 65536 < C) (w' : World) :
    Calls Try.prog 16 #[.agg #[.int .u64 (B : Int), .int .i64 C, .int .i64 W, .int .i64 (u : Int)]] w' fun e w2 => e = .returned (.int .i64 170) ∧ Keep (fun _ => False) w' w2 := by
  have d1 : decide ((u : Int) < 1) = false := by simp; omega
  have d2 : decide ((256 : Int) < u) = false := by simp; omega
  have d3 : decide (C < 1) = false := by simp; omega
  have d4 : decide (65536 < C) = true := by simp; omega
  go_enter Try.func16, Try.ntmps16
  go_wp2_with (at_builtin; refine stopAt ?_; intro q hq)
  go_ret
  exact ⟨by rfl, (Keep.refl _ _).alloc _⟩

set_option maxRecDepth 20000 in
theorem bad_cu (B : Nat) (W : Int) (c u : Nat) (hu0 : 1 ≤ u) (hu1 : u ≤ 256) (hc0 : 1 ≤ c) (hc1 : c ≤ 65536) (hm : c % u ≠ 0) (w' : World) :
    Calls Try.prog 16 #[.agg #[.int .u64 (B : Int), .int .i64 (c : Int), .int .i64 W, .int .i64 (u : Int)]] w' fun e w2 => e = .returned (.int .i64 170) ∧ Keep (fun _ => False) w' w2 := by
  have d1 : decide ((u : Int) < 1) = false := by simp; omega
  have d2 : decide ((256 : Int) < u) = false := by simp; omega
  have d3 : decide ((c : Int) < 1) = false := by simp; omega
  have d4 : decide ((65536 : Int) < c) = false := by simp; omega
  obtain ⟨r, hr⟩ : ∃ r, r = c % u := ⟨_, rfl⟩
  have d5 : (c : Int) % (u : Int) = (r : Int) := by rw [hr]; exact (Int.natCast_emod _ _).symm
  have hr0 : r ≠ 0 := by rw [hr]; exact hm
  have d5' : ((r : Int) == 0) = false := by simp; omega
  have d5'' : decide (r = 0) = false := by simp; omega
  have hU : (u : Int) ≠ 0 := by omega
  clear hr hm
  go_enter Try.func16, Try.ntmps16
  go_wp2_with (at_builtin; refine stopAt ?_; intro q hq)
  go_ret
  exact ⟨by rfl, (Keep.refl _ _).alloc _⟩

set_option maxRecDepth 20000 in
theorem bad_w0 (B : Nat) (W : Int) (c u : Nat) (hu0 : 1 ≤ u) (hu1 : u ≤ 256) (hc0 : 1 ≤ c) (hc1 : c ≤ 65536) (hm : c % u = 0) (h : W < 1) (w' : World) :
    Calls Try.prog 16 #[.agg #[.int .u64 (B : Int), .int .i64 (c : Int), .int .i64 W, .int .i64 (u : Int)]] w' fun e w2 => e = .returned (.int .i64 170) ∧ Keep (fun _ => False) w' w2 := by
  have d1 : decide ((u : Int) < 1) = false := by simp; omega
  have d2 : decide ((256 : Int) < u) = false := by simp; omega
  have d3 : decide ((c : Int) < 1) = false := by simp; omega
  have d4 : decide ((65536 : Int) < c) = false := by simp; omega
  have d6 : decide (W < 1) = true := by simp; omega
  have d5 : (c : Int) % (u : Int) = 0 := by rw [← Int.natCast_emod, hm]; rfl
  have hU : (u : Int) ≠ 0 := by omega
  go_enter Try.func16, Try.ntmps16
  go_wp2_with (at_builtin; refine stopAt ?_; intro q hq)
  go_ret
  exact ⟨by rfl, (Keep.refl _ _).alloc _⟩

set_option maxRecDepth 20000 in
theorem bad_w1 (B : Nat) (W : Int) (c u : Nat) (hu0 : 1 ≤ u) (hu1 : u ≤ 256) (hc0 : 1 ≤ c) (hc1 : c ≤ 65536) (hm : c % u = 0) (h : 16 < W) (w' : World) :
    Calls Try.prog 16 #[.agg #[.int .u64 (B : Int), .int .i64 (c : Int), .int .i64 W, .int .i64 (u : Int)]] w' fun e w2 => e = .returned (.int .i64 170) ∧ Keep (fun _ => False) w' w2 := by
  have d1 : decide ((u : Int) < 1) = false := by simp; omega
  have d2 : decide ((256 : Int) < u) = false := by simp; omega
  have d3 : decide ((c : Int) < 1) = false := by simp; omega
  have d4 : decide ((65536 : Int) < c) = false := by simp; omega
  have d6 : decide (W < 1) = false := by simp; omega
  have d7 : decide (16 < W) = true := by simp; omega
  have d5 : (c : Int) % (u : Int) = 0 := by rw [← Int.natCast_emod, hm]; rfl
  have hU : (u : Int) ≠ 0 := by omega
  go_enter Try.func16, Try.ntmps16
  go_wp2_with (at_builtin; refine stopAt ?_; intro q hq)
  go_ret
  exact ⟨by rfl, (Keep.refl _ _).alloc _⟩

set_option maxRecDepth 20000 in
theorem bad_b0 (B : Nat) (c w u : Nat) (hu0 : 1 ≤ u) (hu1 : u ≤ 256) (hc0 : 1 ≤ c) (hc1 : c ≤ 65536) (hm : c % u = 0) (hw0 : 1 ≤ w) (hw1 : w ≤ 16) (h : B < 1) (w' : World) :
    Calls Try.prog 16 #[.agg #[.int .u64 (B : Int), .int .i64 (c : Int), .int .i64 (w : Int), .int .i64 (u : Int)]] w' fun e w2 => e = .returned (.int .i64 170) ∧ Keep (fun _ => False) w' w2 := by
  have d1 : decide ((u : Int) < 1) = false := by simp; omega
  have d2 : decide ((256 : Int) < u) = false := by simp; omega
  have d3 : decide ((c : Int) < 1) = false := by simp; omega
  have d4 : decide ((65536 : Int) < c) = false := by simp; omega
  have d6 : decide ((w : Int) < 1) = false := by simp; omega
  have d7 : decide ((16 : Int) < w) = false := by simp; omega
  have e1 : decide ((B : Int) < 1) = true := by simp; omega
  have d5 : (c : Int) % (u : Int) = 0 := by rw [← Int.natCast_emod, hm]; rfl
  have hU : (u : Int) ≠ 0 := by omega
  have hmul : w * c ≤ 16 * 65536 := Nat.mul_le_mul hw1 hc1
  obtain ⟨S, hS⟩ : ∃ S, S = w * c := ⟨_, rfl⟩
  have hset := fun w' => set_any B c w u hc1 hw1 w'
  rw [← hS] at hset hmul
  have hS0 : 0 < S := by rw [hS]; exact Nat.mul_pos hw0 hc0
  have r1 : (w : Int) * (c : Int) = (S : Int) := by rw [hS]; exact (Int.natCast_mul _ _).symm
  have hSz : (S : Int) ≠ 0 := by omega
  have hCz : (c : Int) ≠ 0 := by omega
  have k4 := wrapU c (by omega)
  have k5 := wrapU S (by omega)
  obtain ⟨y, hy⟩ : ∃ y, y = B % S := ⟨_, rfl⟩
  have k1 : (B : Int) % (S : Int) = (y : Int) := by rw [hy]; exact (Int.natCast_emod _ _).symm
  obtain ⟨z, hz⟩ : ∃ z, z = B / c := ⟨_, rfl⟩
  have hzB : z ≤ B := by rw [hz]; exact Nat.div_le_self _ _
  have k2 : (B : Int) / (c : Int) = (z : Int) := by rw [hz]; exact (Int.natCast_ediv _ _).symm
  have Hset := hid hset
  clear hset hS hy hz
  go_enter Try.func16, Try.ntmps16
  go_wp2_with (at_builtin; refine stopAt ?_; intro q hq)
  obtain ⟨v1, hv1⟩ : ∃ v1, v1 = w'.alloc (.cells #[.int .u64 (B : Int), .int .i64 (c : Int), .int .i64 (w : Int), .int .i64 (u : Int)] 25) := ⟨_, rfl⟩
  have X1 := Boxed.new w' B c w u
  rw [← hv1] at X1 ⊢
  clear hv1
  obtain ⟨i0, i1, i2, i3, -, -⟩ := cells4 X1.at_
  have j0 := fun s : Later v1 => s.cell i0
  have j1 := fun s : Later v1 => s.cell i1
  have j2 := fun s : Later v1 => s.cell i2
  have j3 := fun s : Later v1 => s.cell i3
  clear i0 i1 i2 i3
  (refine wp_region_later (by kernel_rfl) (by kernel_rfl) ?_; (repeat (go_big_quiet_step ((go_at_call 26; exact Later.call (Hset.out _))))); refine wpQuiet_nil ?_; rintro _ ⟨sq, rfl⟩)
  go_wp2_with (at_builtin; refine stopAt ?_; intro q hq)
  go_ret
  exact ⟨by rfl, X1.keep.next sq.keep (fun _ _ x => x) (fun _ _ x => x)⟩

set_option maxRecDepth 20000 in
theorem bad_b1 (B : Nat) (c w u : Nat) (hu0 : 1 ≤ u) (hu1 : u ≤ 256) (hc0 : 1 ≤ c) (hc1 : c ≤ 65536) (hm : c % u = 0) (hw0 : 1 ≤ w) (hw1 : w ≤ 16) (h : 1099511627776 < B) (hB : B ≤ 18446744073709551615) (w' : World) :
    Calls Try.prog 16 #[.agg #[.int .u64 (B : Int), .int .i64 (c : Int), .int .i64 (w : Int), .int .i64 (u : Int)]] w' fun e w2 => e = .returned (.int .i64 170) ∧ Keep (fun _ => False) w' w2 := by
  have d1 : decide ((u : Int) < 1) = false := by simp; omega
  have d2 : decide ((256 : Int) < u) = false := by simp; omega
  have d3 : decide ((c : Int) < 1) = false := by simp; omega
  have d4 : decide ((65536 : Int) < c) = false := by simp; omega
  have d6 : decide ((w : Int) < 1) = false := by simp; omega
  have d7 : decide ((16 : Int) < w) = false := by simp; omega
  have e1 : decide ((B : Int) < 1) = false := by simp; omega
  have e2 : decide ((1099511627776 : Int) < B) = true := by simp; omega
  have d5 : (c : Int) % (u : Int) = 0 := by rw [← Int.natCast_emod, hm]; rfl
  have hU : (u : Int) ≠ 0 := by omega
  have hmul : w * c ≤ 16 * 65536 := Nat.mul_le_mul hw1 hc1
  obtain ⟨S, hS⟩ : ∃ S, S = w * c := ⟨_, rfl⟩
  have hset := fun w' => set_any B c w u hc1 hw1 w'
  rw [← hS] at hset hmul
  have hS0 : 0 < S := by rw [hS]; exact Nat.mul_pos hw0 hc0
  have r1 : (w : Int) * (c : Int) = (S : Int) := by rw [hS]; exact (Int.natCast_mul _ _).symm
  have hSz : (S : Int) ≠ 0 := by omega
  have hCz : (c : Int) ≠ 0 := by omega
  have k4 := wrapU c (by omega)
  have k5 := wrapU S (by omega)
  obtain ⟨y, hy⟩ : ∃ y, y = B % S := ⟨_, rfl⟩
  have k1 : (B : Int) % (S : Int) = (y : Int) := by rw [hy]; exact (Int.natCast_emod _ _).symm
  obtain ⟨z, hz⟩ : ∃ z, z = B / c := ⟨_, rfl⟩
  have hzB : z ≤ B := by rw [hz]; exact Nat.div_le_self _ _
  have k2 : (B : Int) / (c : Int) = (z : Int) := by rw [hz]; exact (Int.natCast_ediv _ _).symm
  have Hset := hid hset
  clear hset hS hy hz
  go_enter Try.func16, Try.ntmps16
  go_wp2_with (at_builtin; refine stopAt ?_; intro q hq)
  obtain ⟨v1, hv1⟩ : ∃ v1, v1 = w'.alloc (.cells #[.int .u64 (B : Int), .int .i64 (c : Int), .int .i64 (w : Int), .int .i64 (u : Int)] 25) := ⟨_, rfl⟩
  have X1 := Boxed.new w' B c w u
  rw [← hv1] at X1 ⊢
  clear hv1
  obtain ⟨i0, i1, i2, i3, -, -⟩ := cells4 X1.at_
  have j0 := fun s : Later v1 => s.cell i0
  have j1 := fun s : Later v1 => s.cell i1
  have j2 := fun s : Later v1 => s.cell i2
  have j3 := fun s : Later v1 => s.cell i3
  clear i0 i1 i2 i3
  (refine wp_region_later (by kernel_rfl) (by kernel_rfl) ?_; (repeat (go_big_quiet_step ((go_at_call 26; exact Later.call (Hset.out _))))); refine wpQuiet_nil ?_; rintro _ ⟨sq, rfl⟩)
  go_wp2_with (at_builtin; refine stopAt ?_; intro q hq)
  go_ret
  exact ⟨by rfl, X1.keep.next sq.keep (fun _ _ x => x) (fun _ _ x => x)⟩

set_option maxRecDepth 20000 in
theorem bad_bs (B : Nat) (c w u : Nat) (hu0 : 1 ≤ u) (hu1 : u ≤ 256) (hc0 : 1 ≤ c) (hc1 : c ≤ 65536) (hm : c % u = 0) (hw0 : 1 ≤ w) (hw1 : w ≤ 16) (hb0 : 1 ≤ B) (hb1 : B ≤ 1099511627776) (h : B % (w * c) ≠ 0) (w' : World) :
    Calls Try.prog 16 #[.agg #[.int .u64 (B : Int), .int .i64 (c : Int), .int .i64 (w : Int), .int .i64 (u : Int)]] w' fun e w2 => e = .returned (.int .i64 170) ∧ Keep (fun _ => False) w' w2 := by
  have d1 : decide ((u : Int) < 1) = false := by simp; omega
  have d2 : decide ((256 : Int) < u) = false := by simp; omega
  have d3 : decide ((c : Int) < 1) = false := by simp; omega
  have d4 : decide ((65536 : Int) < c) = false := by simp; omega
  have d6 : decide ((w : Int) < 1) = false := by simp; omega
  have d7 : decide ((16 : Int) < w) = false := by simp; omega
  have e1 : decide ((B : Int) < 1) = false := by simp; omega
  have e2 : decide ((1099511627776 : Int) < B) = false := by simp; omega
  have d5 : (c : Int) % (u : Int) = 0 := by rw [← Int.natCast_emod, hm]; rfl
  have hU : (u : Int) ≠ 0 := by omega
  have hmul : w * c ≤ 16 * 65536 := Nat.mul_le_mul hw1 hc1
  obtain ⟨S, hS⟩ : ∃ S, S = w * c := ⟨_, rfl⟩
  have hset := fun w' => set_any B c w u hc1 hw1 w'
  rw [← hS] at hset hmul
  have hS0 : 0 < S := by rw [hS]; exact Nat.mul_pos hw0 hc0
  have r1 : (w : Int) * (c : Int) = (S : Int) := by rw [hS]; exact (Int.natCast_mul _ _).symm
  have hSz : (S : Int) ≠ 0 := by omega
  have hCz : (c : Int) ≠ 0 := by omega
  have k4 := wrapU c (by omega)
  have k5 := wrapU S (by omega)
  obtain ⟨y, hy⟩ : ∃ y, y = B % S := ⟨_, rfl⟩
  have k1 : (B : Int) % (S : Int) = (y : Int) := by rw [hy]; exact (Int.natCast_emod _ _).symm
  obtain ⟨z, hz⟩ : ∃ z, z = B / c := ⟨_, rfl⟩
  have hzB : z ≤ B := by rw [hz]; exact Nat.div_le_self _ _
  have k2 : (B : Int) / (c : Int) = (z : Int) := by rw [hz]; exact (Int.natCast_ediv _ _).symm
  have Hset := hid hset
  have hy0 : y ≠ 0 := by rw [hy, hS]; exact h
  have k6 : ((y : Int) == 0) = false := by simp; omega
  have k6' : decide (y = 0) = false := by simp; omega
  have k6b : ((y : Int) != 0) = true := by simp; omega
  have k6c : (y != 0) = true := by simp; omega
  have k6d : decide ((y : Int) = 0) = false := by simp; omega
  have k6e : (y == 0) = false := by simp; omega
  clear hset hS hy hz h
  go_enter Try.func16, Try.ntmps16
  go_wp2_with (at_builtin; refine stopAt ?_; intro q hq)
  obtain ⟨v1, hv1⟩ : ∃ v1, v1 = w'.alloc (.cells #[.int .u64 (B : Int), .int .i64 (c : Int), .int .i64 (w : Int), .int .i64 (u : Int)] 25) := ⟨_, rfl⟩
  have X1 := Boxed.new w' B c w u
  rw [← hv1] at X1 ⊢
  clear hv1
  obtain ⟨i0, i1, i2, i3, -, -⟩ := cells4 X1.at_
  have j0 := fun s : Later v1 => s.cell i0
  have j1 := fun s : Later v1 => s.cell i1
  have j2 := fun s : Later v1 => s.cell i2
  have j3 := fun s : Later v1 => s.cell i3
  clear i0 i1 i2 i3
  (refine wp_region_later (by kernel_rfl) (by kernel_rfl) ?_; (repeat (go_big_quiet_step ((go_at_call 26; exact Later.call (Hset.out _))))); refine wpQuiet_nil ?_; rintro _ ⟨sq, rfl⟩)
  go_wp2_with (at_builtin; refine stopAt ?_; intro q hq)
  go_ret
  exact ⟨by rfl, X1.keep.next sq.keep (fun _ _ x => x) (fun _ _ x => x)⟩

set_option maxRecDepth 20000 in
theorem bad_bc (B : Nat) (c w u : Nat) (hu0 : 1 ≤ u) (hu1 : u ≤ 256) (hc0 : 1 ≤ c) (hc1 : c ≤ 65536) (hm : c % u = 0) (hw0 : 1 ≤ w) (hw1 : w ≤ 16) (hb0 : 1 ≤ B) (hb1 : B ≤ 1099511627776) (h : B % (w * c) = 0) (h2 : 256 < B / c) (w' : World) :
    Calls Try.prog 16 #[.agg #[.int .u64 (B : Int), .int .i64 (c : Int), .int .i64 (w : Int), .int .i64 (u : Int)]] w' fun e w2 => e = .returned (.int .i64 170) ∧ Keep (fun _ => False) w' w2 := by
  have d1 : decide ((u : Int) < 1) = false := by simp; omega
  have d2 : decide ((256 : Int) < u) = false := by simp; omega
  have d3 : decide ((c : Int) < 1) = false := by simp; omega
  have d4 : decide ((65536 : Int) < c) = false := by simp; omega
  have d6 : decide ((w : Int) < 1) = false := by simp; omega
  have d7 : decide ((16 : Int) < w) = false := by simp; omega
  have e1 : decide ((B : Int) < 1) = false := by simp; omega
  have e2 : decide ((1099511627776 : Int) < B) = false := by simp; omega
  have d5 : (c : Int) % (u : Int) = 0 := by rw [← Int.natCast_emod, hm]; rfl
  have hU : (u : Int) ≠ 0 := by omega
  have hmul : w * c ≤ 16 * 65536 := Nat.mul_le_mul hw1 hc1
  obtain ⟨S, hS⟩ : ∃ S, S = w * c := ⟨_, rfl⟩
  have hset := fun w' => set_any B c w u hc1 hw1 w'
  rw [← hS] at hset hmul
  have hS0 : 0 < S := by rw [hS]; exact Nat.mul_pos hw0 hc0
  have r1 : (w : Int) * (c : Int) = (S : Int) := by rw [hS]; exact (Int.natCast_mul _ _).symm
  have hSz : (S : Int) ≠ 0 := by omega
  have hCz : (c : Int) ≠ 0 := by omega
  have k4 := wrapU c (by omega)
  have k5 := wrapU S (by omega)
  obtain ⟨y, hy⟩ : ∃ y, y = B % S := ⟨_, rfl⟩
  have k1 : (B : Int) % (S : Int) = (y : Int) := by rw [hy]; exact (Int.natCast_emod _ _).symm
  obtain ⟨z, hz⟩ : ∃ z, z = B / c := ⟨_, rfl⟩
  have hzB : z ≤ B := by rw [hz]; exact Nat.div_le_self _ _
  have k2 : (B : Int) / (c : Int) = (z : Int) := by rw [hz]; exact (Int.natCast_ediv _ _).symm
  have Hset := hid hset
  obtain rfl : y = 0 := by rw [hy, hS]; exact h
  rw [← hz] at h2
  have k6 : decide ((256 : Int) < (z : Int)) = true := by simp; omega
  clear hset hS hy hz h
  go_enter Try.func16, Try.ntmps16
  go_wp2_with (at_builtin; refine stopAt ?_; intro q hq)
  obtain ⟨v1, hv1⟩ : ∃ v1, v1 = w'.alloc (.cells #[.int .u64 (B : Int), .int .i64 (c : Int), .int .i64 (w : Int), .int .i64 (u : Int)] 25) := ⟨_, rfl⟩
  have X1 := Boxed.new w' B c w u
  rw [← hv1] at X1 ⊢
  clear hv1
  obtain ⟨i0, i1, i2, i3, -, -⟩ := cells4 X1.at_
  have j0 := fun s : Later v1 => s.cell i0
  have j1 := fun s : Later v1 => s.cell i1
  have j2 := fun s : Later v1 => s.cell i2
  have j3 := fun s : Later v1 => s.cell i3
  clear i0 i1 i2 i3
  (refine wp_region_later (by kernel_rfl) (by kernel_rfl) ?_; (repeat (go_big_quiet_step ((go_at_call 26; exact Later.call (Hset.out _))))); refine wpQuiet_nil ?_; rintro _ ⟨sq, rfl⟩)
  go_wp2_with (at_builtin; refine stopAt ?_; intro q hq)
  go_ret
  exact ⟨by rfl, X1.keep.next sq.keep (fun _ _ x => x) (fun _ _ x => x)⟩

set_option maxRecDepth 20000 in
theorem rbad_u0 (B : Nat) (C W U : Int) (h : U < 1) (w' : World) :
    Calls Try.prog 17 #[.agg #[.int .u64 (B : Int), .int .i64 C, .int .i64 W, .int .i64 U]] w' fun e w2 => e = .returned (.int .i64 170) ∧ Keep (fun _ => False) w' w2 := by
  have d1 : decide (U < 1) = true := by simp; omega
  go_enter Try.func17, Try.ntmps17
  go_wp2_with (at_builtin; refine stopAt ?_; intro q hq)
  go_ret
  exact ⟨by rfl, (Keep.refl _ _).alloc _⟩

set_option maxRecDepth 20000 in
theorem rbad_u1 (B : Nat) (C W U : Int) (h : 256 < U) (w' : World) :
    Calls Try.prog 17 #[.agg #[.int .u64 (B : Int), .int .i64 C, .int .i64 W, .int .i64 U]] w' fun e w2 => e = .returned (.int .i64 170) ∧ Keep (fun _ => False) w' w2 := by
  have d1 : decide (U < 1) = false := by simp; omega
  have d2 : decide (256 < U) = true := by simp; omega
  go_enter Try.func17, Try.ntmps17
  go_wp2_with (at_builtin; refine stopAt ?_; intro q hq)
  go_ret
  exact ⟨by rfl, (Keep.refl _ _).alloc _⟩

set_option maxRecDepth 20000 in
theorem rbad_c0 (B : Nat) (C W : Int) (u : Nat) (hu0 : 1 ≤ u) (hu1 : u ≤ 256) (h : C < 1) (w' : World) :
    Calls Try.prog 17 #[.agg #[.int .u64 (B : Int), .int .i64 C, .int .i64 W, .int .i64 (u : Int)]] w' fun e w2 => e = .returned (.int .i64 170) ∧ Keep (fun _ => False) w' w2 := by
  have d1 : decide ((u : Int) < 1) = false := by simp; omega
  have d2 : decide ((256 : Int) < u) = false := by simp; omega
  have d3 : decide (C < 1) = true := by simp; omega
  go_enter Try.func17, Try.ntmps17
  go_wp2_with (at_builtin; refine stopAt ?_; intro q hq)
  go_ret
  exact ⟨by rfl, (Keep.refl _ _).alloc _⟩

set_option maxRecDepth 20000 in
theorem rbad_c1 (B : Nat) (C W : Int) (u : Nat) (hu0 : 1 ≤ u) (hu1 : u ≤ 256) (h : 65536 < C) (w' : World) :
    Calls Try.prog 17 #[.agg #[.int .u64 (B : Int), .int .i64 C, .int .i64 W, .int .i64 (u : Int)]] w' fun e w2 => e = .returned (.int .i64 170) ∧ Keep (fun _ => False) w' w2 := by
  have d1 : decide ((u : Int) < 1) = false := by simp; omega
  have d2 : decide ((256 : Int) < u) = false := by simp; omega
  have d3 : decide (C < 1) = false := by simp; omega
  have d4 : decide (65536 < C) = true := by simp; omega
  go_enter Try.func17, Try.ntmps17
  go_wp2_with (at_builtin; refine stopAt ?_; intro q hq)
  go_ret
  exact ⟨by rfl, (Keep.refl _ _).alloc _⟩

set_option maxRecDepth 20000 in
theorem rbad_w0 (B : Nat) (W : Int) (c u : Nat) (hu0 : 1 ≤ u) (hu1 : u ≤ 256) (hc0 : 1 ≤ c) (hc1 : c ≤ 65536) (h : W < 1) (w' : World) :
    Calls Try.prog 17 #[.agg #[.int .u64 (B : Int), .int .i64 (c : Int), .int .i64 W, .int .i64 (u : Int)]] w' fun e w2 => e = .returned (.int .i64 170) ∧ Keep (fun _ => False) w' w2 := by
  have d1 : decide ((u : Int) < 1) = false := by simp; omega
  have d2 : decide ((256 : Int) < u) = false := by simp; omega
  have d3 : decide ((c : Int) < 1) = false := by simp; omega
  have d4 : decide ((65536 : Int) < c) = false := by simp; omega
  have d6 : decide (W < 1) = true := by simp; omega
  go_enter Try.func17, Try.ntmps17
  go_wp2_with (at_builtin; refine stopAt ?_; intro q hq)
  go_ret
  exact ⟨by rfl, (Keep.refl _ _).alloc _⟩

set_option maxRecDepth 20000 in
theorem rbad_w1 (B : Nat) (W : Int) (c u : Nat) (hu0 : 1 ≤ u) (hu1 : u ≤ 256) (hc0 : 1 ≤ c) (hc1 : c ≤ 65536) (h : 16 < W) (w' : World) :
    Calls Try.prog 17 #[.agg #[.int .u64 (B : Int), .int .i64 (c : Int), .int .i64 W, .int .i64 (u : Int)]] w' fun e w2 => e = .returned (.int .i64 170) ∧ Keep (fun _ => False) w' w2 := by
  have d1 : decide ((u : Int) < 1) = false := by simp; omega
  have d2 : decide ((256 : Int) < u) = false := by simp; omega
  have d3 : decide ((c : Int) < 1) = false := by simp; omega
  have d4 : decide ((65536 : Int) < c) = false := by simp; omega
  have d6 : decide (W < 1) = false := by simp; omega
  have d7 : decide (16 < W) = true := by simp; omega
  go_enter Try.func17, Try.ntmps17
  go_wp2_with (at_builtin; refine stopAt ?_; intro q hq)
  go_ret
  exact ⟨by rfl, (Keep.refl _ _).alloc _⟩

set_option maxRecDepth 20000 in
theorem rbad_cu (B : Nat) (c w u : Nat) (hu0 : 1 ≤ u) (hu1 : u ≤ 256) (hc0 : 1 ≤ c) (hc1 : c ≤ 65536) (hw0 : 1 ≤ w) (hw1 : w ≤ 16) (hm : c % u ≠ 0) (w' : World) :
    Calls Try.prog 17 #[.agg #[.int .u64 (B : Int), .int .i64 (c : Int), .int .i64 (w : Int), .int .i64 (u : Int)]] w' fun e w2 => e = .returned (.int .i64 170) ∧ Keep (fun _ => False) w' w2 := by
  have d1 : decide ((u : Int) < 1) = false := by simp; omega
  have d2 : decide ((256 : Int) < u) = false := by simp; omega
  have d3 : decide ((c : Int) < 1) = false := by simp; omega
  have d4 : decide ((65536 : Int) < c) = false := by simp; omega
  have d6 : decide ((w : Int) < 1) = false := by simp; omega
  have d7 : decide ((16 : Int) < w) = false := by simp; omega
  obtain ⟨r, hr⟩ : ∃ r, r = c % u := ⟨_, rfl⟩
  have d5 : (c : Int) % (u : Int) = (r : Int) := by rw [hr]; exact (Int.natCast_emod _ _).symm
  have hr0 : r ≠ 0 := by rw [hr]; exact hm
  have d5' : ((r : Int) == 0) = false := by simp; omega
  have d5'' : decide (r = 0) = false := by simp; omega
  have hU : (u : Int) ≠ 0 := by omega
  clear hr hm
  go_enter Try.func17, Try.ntmps17
  go_wp2_with (at_builtin; refine stopAt ?_; intro q hq)
  go_ret
  exact ⟨by rfl, (Keep.refl _ _).alloc _⟩

set_option maxRecDepth 20000 in
theorem rbad_b0 (B : Nat) (c w u : Nat) (hu0 : 1 ≤ u) (hu1 : u ≤ 256) (hc0 : 1 ≤ c) (hc1 : c ≤ 65536) (hm : c % u = 0) (hw0 : 1 ≤ w) (hw1 : w ≤ 16) (h : B < 1) (w' : World) :
    Calls Try.prog 17 #[.agg #[.int .u64 (B : Int), .int .i64 (c : Int), .int .i64 (w : Int), .int .i64 (u : Int)]] w' fun e w2 => e = .returned (.int .i64 170) ∧ Keep (fun _ => False) w' w2 := by
  have d1 : decide ((u : Int) < 1) = false := by simp; omega
  have d2 : decide ((256 : Int) < u) = false := by simp; omega
  have d3 : decide ((c : Int) < 1) = false := by simp; omega
  have d4 : decide ((65536 : Int) < c) = false := by simp; omega
  have d6 : decide ((w : Int) < 1) = false := by simp; omega
  have d7 : decide ((16 : Int) < w) = false := by simp; omega
  have e1 : decide ((B : Int) < 1) = true := by simp; omega
  have d5 : (c : Int) % (u : Int) = 0 := by rw [← Int.natCast_emod, hm]; rfl
  have hU : (u : Int) ≠ 0 := by omega
  have hmul : w * c ≤ 16 * 65536 := Nat.mul_le_mul hw1 hc1
  obtain ⟨S, hS⟩ : ∃ S, S = w * c := ⟨_, rfl⟩
  have hset := fun w' => set_any B c w u hc1 hw1 w'
  rw [← hS] at hset hmul
  have hS0 : 0 < S := by rw [hS]; exact Nat.mul_pos hw0 hc0
  have r1 : (w : Int) * (c : Int) = (S : Int) := by rw [hS]; exact (Int.natCast_mul _ _).symm
  have hSz : (S : Int) ≠ 0 := by omega
  have hCz : (c : Int) ≠ 0 := by omega
  have k4 := wrapU c (by omega)
  have k5 := wrapU S (by omega)
  obtain ⟨y, hy⟩ : ∃ y, y = B % S := ⟨_, rfl⟩
  have k1 : (B : Int) % (S : Int) = (y : Int) := by rw [hy]; exact (Int.natCast_emod _ _).symm
  obtain ⟨z, hz⟩ : ∃ z, z = B / c := ⟨_, rfl⟩
  have hzB : z ≤ B := by rw [hz]; exact Nat.div_le_self _ _
  have k2 : (B : Int) / (c : Int) = (z : Int) := by rw [hz]; exact (Int.natCast_ediv _ _).symm
  have Hset := hid hset
  clear hset hS hy hz
  go_enter Try.func17, Try.ntmps17
  go_wp2_with (at_builtin; refine stopAt ?_; intro q hq)
  go_ret
  exact ⟨by rfl, (Keep.refl _ _).alloc _⟩

set_option maxRecDepth 20000 in
theorem rbad_b1 (B : Nat) (c w u : Nat) (hu0 : 1 ≤ u) (hu1 : u ≤ 256) (hc0 : 1 ≤ c) (hc1 : c ≤ 65536) (hm : c % u = 0) (hw0 : 1 ≤ w) (hw1 : w ≤ 16) (h : 1099511627776 < B) (hB : B ≤ 18446744073709551615) (w' : World) :
    Calls Try.prog 17 #[.agg #[.int .u64 (B : Int), .int .i64 (c : Int), .int .i64 (w : Int), .int .i64 (u : Int)]] w' fun e w2 => e = .returned (.int .i64 170) ∧ Keep (fun _ => False) w' w2 := by
  have d1 : decide ((u : Int) < 1) = false := by simp; omega
  have d2 : decide ((256 : Int) < u) = false := by simp; omega
  have d3 : decide ((c : Int) < 1) = false := by simp; omega
  have d4 : decide ((65536 : Int) < c) = false := by simp; omega
  have d6 : decide ((w : Int) < 1) = false := by simp; omega
  have d7 : decide ((16 : Int) < w) = false := by simp; omega
  have e1 : decide ((B : Int) < 1) = false := by simp; omega
  have e2 : decide ((1099511627776 : Int) < B) = true := by simp; omega
  have d5 : (c : Int) % (u : Int) = 0 := by rw [← Int.natCast_emod, hm]; rfl
  have hU : (u : Int) ≠ 0 := by omega
  have hmul : w * c ≤ 16 * 65536 := Nat.mul_le_mul hw1 hc1
  obtain ⟨S, hS⟩ : ∃ S, S = w * c := ⟨_, rfl⟩
  have hset := fun w' => set_any B c w u hc1 hw1 w'
  rw [← hS] at hset hmul
  have hS0 : 0 < S := by rw [hS]; exact Nat.mul_pos hw0 hc0
  have r1 : (w : Int) * (c : Int) = (S : Int) := by rw [hS]; exact (Int.natCast_mul _ _).symm
  have hSz : (S : Int) ≠ 0 := by omega
  have hCz : (c : Int) ≠ 0 := by omega
  have k4 := wrapU c (by omega)
  have k5 := wrapU S (by omega)
  obtain ⟨y, hy⟩ : ∃ y, y = B % S := ⟨_, rfl⟩
  have k1 : (B : Int) % (S : Int) = (y : Int) := by rw [hy]; exact (Int.natCast_emod _ _).symm
  obtain ⟨z, hz⟩ : ∃ z, z = B / c := ⟨_, rfl⟩
  have hzB : z ≤ B := by rw [hz]; exact Nat.div_le_self _ _
  have k2 : (B : Int) / (c : Int) = (z : Int) := by rw [hz]; exact (Int.natCast_ediv _ _).symm
  have Hset := hid hset
  clear hset hS hy hz
  go_enter Try.func17, Try.ntmps17
  go_wp2_with (at_builtin; refine stopAt ?_; intro q hq)
  go_ret
  exact ⟨by rfl, (Keep.refl _ _).alloc _⟩

set_option maxRecDepth 20000 in
theorem rbad_bs (B : Nat) (c w u : Nat) (hu0 : 1 ≤ u) (hu1 : u ≤ 256) (hc0 : 1 ≤ c) (hc1 : c ≤ 65536) (hm : c % u = 0) (hw0 : 1 ≤ w) (hw1 : w ≤ 16) (hb0 : 1 ≤ B) (hb1 : B ≤ 1099511627776) (h : B % (w * c) ≠ 0) (w' : World) :
    Calls Try.prog 17 #[.agg #[.int .u64 (B : Int), .int .i64 (c : Int), .int .i64 (w : Int), .int .i64 (u : Int)]] w' fun e w2 => e = .returned (.int .i64 170) ∧ Keep (fun _ => False) w' w2 := by
  have d1 : decide ((u : Int) < 1) = false := by simp; omega
  have d2 : decide ((256 : Int) < u) = false := by simp; omega
  have d3 : decide ((c : Int) < 1) = false := by simp; omega
  have d4 : decide ((65536 : Int) < c) = false := by simp; omega
  have d6 : decide ((w : Int) < 1) = false := by simp; omega
  have d7 : decide ((16 : Int) < w) = false := by simp; omega
  have e1 : decide ((B : Int) < 1) = false := by simp; omega
  have e2 : decide ((1099511627776 : Int) < B) = false := by simp; omega
  have d5 : (c : Int) % (u : Int) = 0 := by rw [← Int.natCast_emod, hm]; rfl
  have hU : (u : Int) ≠ 0 := by omega
  have hmul : w * c ≤ 16 * 65536 := Nat.mul_le_mul hw1 hc1
  obtain ⟨S, hS⟩ : ∃ S, S = w * c := ⟨_, rfl⟩
  have hset := fun w' => set_any B c w u hc1 hw1 w'
  rw [← hS] at hset hmul
  have hS0 : 0 < S := by rw [hS]; exact Nat.mul_pos hw0 hc0
  have r1 : (w : Int) * (c : Int) = (S : Int) := by rw [hS]; exact (Int.natCast_mul _ _).symm
  have hSz : (S : Int) ≠ 0 := by omega
  have hCz : (c : Int) ≠ 0 := by omega
  have k4 := wrapU c (by omega)
  have k5 := wrapU S (by omega)
  obtain ⟨y, hy⟩ : ∃ y, y = B % S := ⟨_, rfl⟩
  have k1 : (B : Int) % (S : Int) = (y : Int) := by rw [hy]; exact (Int.natCast_emod _ _).symm
  obtain ⟨z, hz⟩ : ∃ z, z = B / c := ⟨_, rfl⟩
  have hzB : z ≤ B := by rw [hz]; exact Nat.div_le_self _ _
  have k2 : (B : Int) / (c : Int) = (z : Int) := by rw [hz]; exact (Int.natCast_ediv _ _).symm
  have Hset := hid hset
  have hy0 : y ≠ 0 := by rw [hy, hS]; exact h
  have k6 : ((y : Int) == 0) = false := by simp; omega
  have k6' : decide (y = 0) = false := by simp; omega
  have k6b : ((y : Int) != 0) = true := by simp; omega
  have k6c : (y != 0) = true := by simp; omega
  have k6d : decide ((y : Int) = 0) = false := by simp; omega
  have k6e : (y == 0) = false := by simp; omega
  clear hset hS hy hz h
  go_enter Try.func17, Try.ntmps17
  go_wp2_with (at_builtin; refine stopAt ?_; intro q hq)
  go_ret
  exact ⟨by rfl, (Keep.refl _ _).alloc _⟩

set_option maxRecDepth 20000 in
theorem rbad_bc (B : Nat) (c w u : Nat) (hu0 : 1 ≤ u) (hu1 : u ≤ 256) (hc0 : 1 ≤ c) (hc1 : c ≤ 65536) (hm : c % u = 0) (hw0 : 1 ≤ w) (hw1 : w ≤ 16) (hb0 : 1 ≤ B) (hb1 : B ≤ 1099511627776) (h : B % (w * c) = 0) (h2 : 256 < B / c) (w' : World) :
    Calls Try.prog 17 #[.agg #[.int .u64 (B : Int), .int .i64 (c : Int), .int .i64 (w : Int), .int .i64 (u : Int)]] w' fun e w2 => e = .returned (.int .i64 170) ∧ Keep (fun _ => False) w' w2 := by
  have d1 : decide ((u : Int) < 1) = false := by simp; omega
  have d2 : decide ((256 : Int) < u) = false := by simp; omega
  have d3 : decide ((c : Int) < 1) = false := by simp; omega
  have d4 : decide ((65536 : Int) < c) = false := by simp; omega
  have d6 : decide ((w : Int) < 1) = false := by simp; omega
  have d7 : decide ((16 : Int) < w) = false := by simp; omega
  have e1 : decide ((B : Int) < 1) = false := by simp; omega
  have e2 : decide ((1099511627776 : Int) < B) = false := by simp; omega
  have d5 : (c : Int) % (u : Int) = 0 := by rw [← Int.natCast_emod, hm]; rfl
  have hU : (u : Int) ≠ 0 := by omega
  have hmul : w * c ≤ 16 * 65536 := Nat.mul_le_mul hw1 hc1
  obtain ⟨S, hS⟩ : ∃ S, S = w * c := ⟨_, rfl⟩
  have hset := fun w' => set_any B c w u hc1 hw1 w'
  rw [← hS] at hset hmul
  have hS0 : 0 < S := by rw [hS]; exact Nat.mul_pos hw0 hc0
  have r1 : (w : Int) * (c : Int) = (S : Int) := by rw [hS]; exact (Int.natCast_mul _ _).symm
  have hSz : (S : Int) ≠ 0 := by omega
  have hCz : (c : Int) ≠ 0 := by omega
  have k4 := wrapU c (by omega)
  have k5 := wrapU S (by omega)
  obtain ⟨y, hy⟩ : ∃ y, y = B % S := ⟨_, rfl⟩
  have k1 : (B : Int) % (S : Int) = (y : Int) := by rw [hy]; exact (Int.natCast_emod _ _).symm
  obtain ⟨z, hz⟩ : ∃ z, z = B / c := ⟨_, rfl⟩
  have hzB : z ≤ B := by rw [hz]; exact Nat.div_le_self _ _
  have k2 : (B : Int) / (c : Int) = (z : Int) := by rw [hz]; exact (Int.natCast_ediv _ _).symm
  have Hset := hid hset
  obtain rfl : y = 0 := by rw [hy, hS]; exact h
  rw [← hz] at h2
  have k6 : decide ((256 : Int) < (z : Int)) = true := by simp; omega
  clear hset hS hy hz h
  go_enter Try.func17, Try.ntmps17
  go_wp2_with (at_builtin; refine stopAt ?_; intro q hq)
  go_ret
  exact ⟨by rfl, (Keep.refl _ _).alloc _⟩

end Go.Proofs.Ytmbfglblkpipcaa
