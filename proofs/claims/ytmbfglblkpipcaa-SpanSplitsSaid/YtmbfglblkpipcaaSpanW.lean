/- span: contracts for Chunks, Where and Back at a shape that may be. Conditions: as each contract names them. -/
import Derived.Test.YtmbfglblkpipcaaSpan
import Derived.Test.YtmbfglblkpipcaaLater
import Derived.OwnWalk
namespace Go.Proofs.Ytmbfglblkpipcaa
open Go.RowKit

abbrev shObj (B C W U : Nat) : Obj := .cells #[.int .u64 B, .int .i64 C, .int .i64 W, .int .i64 U] 25 (0, 0)

/-- A function's own copy of the shape. -/
structure Boxed (w : World) (B C W U : Nat) (w1 : World) : Prop where
  at_ : w1.heap[w.heap.size]? = some (shObj B C W U)
  keep : Keep (fun _ => False) w w1
theorem Boxed.new (w : World) (B C W U : Nat) : Boxed w B C W U (w.alloc (.cells #[.int .u64 B, .int .i64 C, .int .i64 W, .int .i64 U] 25)) :=
  ⟨heap_alloc_new w _, (Keep.refl _ _).alloc _⟩
theorem Boxed.step {w w1 w2 : World} {B C W U : Nat} (h : Boxed w B C W U w1) (hk : Keep (fun _ => False) w1 w2) : Boxed w B C W U w2 :=
  ⟨hk.get h.at_ id, h.keep.next hk (fun _ _ x => x) (fun _ _ x => x)⟩

set_option maxRecDepth 20000 in
theorem chunks_ok (B C W U : Nat) (h : ShOk B C W U) (w : World) :
    Calls Try.prog 18 #[.agg #[.int .u64 B, .int .i64 C, .int .i64 W, .int .i64 U]] w fun e w' => e = .returned (.int .i64 ((B / C : Nat) : Int)) ∧ Keep (fun _ => False) w w' := by
  have c0 := h.c0
  have c1 := h.c1
  have b1 := h.b1
  have bc := h.bc
  go_enter Try.func18, Try.ntmps18
  go_wp2_with (at_builtin; refine stopAt ?_; intro q hq)
  (obtain ⟨w1, hbox⟩ : ∃ wbx, wbx = w.alloc (.cells #[.int .u64 B, .int .i64 C, .int .i64 W, .int .i64 U] 25) := ⟨_, rfl⟩; have X1 := Boxed.new w B C W U; rw [← hbox] at X1 ⊢; clear hbox)
  refine (check_ok B C W U h w1).mono ?_
  rintro e w2 ⟨rfl, hk2⟩
  have X2 := X1.step hk2
  obtain ⟨i0, i1, i2, i3, if1, ib1⟩ := cells4 X2.at_
  obtain ⟨q, hq⟩ : ∃ q, q = B / C := ⟨_, rfl⟩
  have r1 : (B : Int) / (C : Int) = (q : Int) := by rw [hq]; exact (Int.natCast_ediv _ _).symm
  have r2 : IntKind.u64.wrap (C : Int) = (C : Int) := by rw [IntKind.wrap_u64]; omega
  rw [← hq] at bc
  have K2 := hid X2.keep
  have HQ := hid hq
  clear hq X1 X2 hk2
  go_wp2_with (at_builtin; refine stopAt ?_; intro q hq)
  go_ret
  exact ⟨by rw [← HQ.out]; rfl, K2.out⟩

set_option maxRecDepth 20000 in
theorem where_ok (B C W U x : Nat) (h : ShOk B C W U) (hx : x < B) (w : World) :
    Calls Try.prog 12 #[.agg #[.int .u64 B, .int .i64 C, .int .i64 W, .int .i64 U], .int .u64 x] w fun e w' =>
      e = .returned (.tuple #[.int .i64 ((SM.wh C W U x).1 : Nat), .int .i64 ((SM.wh C W U x).2 : Nat), .int .i64 0]) ∧ Keep (fun _ => False) w w' := by
  have hx1 : decide ((B : Int) ≤ x) = false := by simp; omega
  go_enter Try.func12, Try.ntmps12
  go_wp2_with (at_builtin; refine stopAt ?_; intro q hq)
  (obtain ⟨w1, hbox⟩ : ∃ wbx, wbx = w.alloc (.cells #[.int .u64 B, .int .i64 C, .int .i64 W, .int .i64 U] 25) := ⟨_, rfl⟩; have X1 := Boxed.new w B C W U; rw [← hbox] at X1 ⊢; clear hbox)
  refine (check_ok B C W U h w1).mono ?_
  rintro e w2 ⟨rfl, hk2⟩
  have X2 := X1.step hk2
  obtain ⟨i0, i1, i2, i3, if1, ib1⟩ := cells4 X2.at_
  clear X1 hk2
  go_wp2_with (at_builtin; refine stopAt ?_; intro q hq)
  refine (where_any B C W U x h hx w2).mono ?_
  rintro e w3 ⟨rfl, hk3⟩
  have K3 := hid (X2.step hk3).keep
  clear hk3 X2
  go_wp2_with (at_builtin; refine stopAt ?_; intro q hq)
  go_ret3
  exact ⟨rfl, K3.out⟩

theorem wrapS (n : Nat) (h : n < 9223372036854775808) : IntKind.i64.wrap (n : Int) = (n : Int) := by simp [IntKind.wrap, IntKind.signed, IntKind.bits]; omega
theorem wrapU (n : Nat) (h : n < 18446744073709551616) : IntKind.u64.wrap (n : Int) = (n : Int) := by simp [IntKind.wrap, IntKind.signed, IntKind.bits]; omega

set_option maxRecDepth 20000 in
theorem back_ok (B C W U c a : Nat) (h : ShOk B C W U) (hc : c < B / C) (ha : a < C) (w : World) :
    Calls Try.prog 14 #[.agg #[.int .u64 B, .int .i64 C, .int .i64 W, .int .i64 U], .int .i64 c, .int .i64 a] w fun e w' =>
      e = .returned (.tuple #[.int .u64 ((SM.bk C W U c a : Nat) : Int), .int .i64 0]) ∧ Keep (fun _ => False) w w' := by
  have bc := h.bc
  have c1 := h.c1
  have u0 := h.u0
  have u1 := h.u1
  have w0 := h.w0
  have w1' := h.w1
  go_enter Try.func14, Try.ntmps14
  go_wp2_with (at_builtin; refine stopAt ?_; intro q hq)
  (obtain ⟨w1, hbox⟩ : ∃ wbx, wbx = w.alloc (.cells #[.int .u64 B, .int .i64 C, .int .i64 W, .int .i64 U] 25) := ⟨_, rfl⟩; have X1 := Boxed.new w B C W U; rw [← hbox] at X1 ⊢; clear hbox)
  refine (check_ok B C W U h w1).mono ?_
  rintro e w2 ⟨rfl, hk2⟩
  have X2 := X1.step hk2
  obtain ⟨i0, i1, i2, i3, if1, ib1⟩ := cells4 X2.at_
  clear X1 hk2
  have d1 : decide ((c : Int) < 0) = false := by simp
  go_wp2_with (at_builtin; refine stopAt ?_; intro q hq)
  refine (chunks_ok B C W U h w2).mono ?_
  rintro e w3 ⟨rfl, hk3⟩
  have X3 := X2.step hk3
  clear i0 i1 i2 i3 if1 ib1 hk3 X2
  obtain ⟨i0, i1, i2, i3, if1, ib1⟩ := cells4 X3.at_
  obtain ⟨q, hq⟩ : ∃ q, q = B / C := ⟨_, rfl⟩
  rw [← hq] at hc bc ⊢
  clear hq
  have d2 : decide (q ≤ c) = false := by simp; omega
  have d3 : decide ((a : Int) < 0) = false := by simp
  have d4 : decide (C ≤ a) = false := by simp; omega
  have m1 : a / U ≤ a := Nat.div_le_self a U
  have m2 : a % U < U := Nat.mod_lt _ u0
  have m3 : c % W < W := Nat.mod_lt _ w0
  have m4 : c / W ≤ c := Nat.div_le_self c W
  have m5 : a / U * W ≤ 65536 * 16 := Nat.mul_le_mul (by omega) w1'
  have m6 : (a / U * W + c % W) * U ≤ (65536 * 16 + 16) * 256 := Nat.mul_le_mul (by omega) u1
  have m7 : W * C ≤ 16 * 65536 := Nat.mul_le_mul w1' c1
  have m8 : c / W * (W * C) ≤ 256 * (16 * 65536) := Nat.mul_le_mul (by omega) m7
  have hset := fun w => set_any B C W U c1 w1' w
  obtain ⟨a1, ha1⟩ : ∃ z, z = a / U := ⟨_, rfl⟩
  obtain ⟨a2, ha2⟩ : ∃ z, z = a % U := ⟨_, rfl⟩
  obtain ⟨c3, hc3⟩ : ∃ z, z = c % W := ⟨_, rfl⟩
  obtain ⟨c2, hc2⟩ : ∃ z, z = c / W := ⟨_, rfl⟩
  obtain ⟨S, hS⟩ : ∃ z, z = W * C := ⟨_, rfl⟩
  rw [← ha1] at m1 m5 m6
  rw [← ha2] at m2
  rw [← hc3] at m3 m6
  rw [← hS] at m7 m8 hset
  rw [← hc2] at m4 m8
  obtain ⟨z1, hz1⟩ : ∃ z, z = a1 * W := ⟨_, rfl⟩
  rw [← hz1] at m5 m6
  obtain ⟨u, hu⟩ : ∃ z, z = z1 + c3 := ⟨_, rfl⟩
  have hu1 : u ≤ 1048592 := by omega
  rw [← hu] at m6
  obtain ⟨z2, hz2⟩ : ∃ z, z = c2 * S := ⟨_, rfl⟩
  obtain ⟨z3, hz3⟩ : ∃ z, z = u * U := ⟨_, rfl⟩
  rw [← hz2] at m8
  rw [← hz3] at m6
  have r1 : (a : Int) / (U : Int) = (a1 : Int) := by rw [ha1]; exact (Int.natCast_ediv _ _).symm
  have r2 : (a : Int) % (U : Int) = (a2 : Int) := by rw [ha2]; exact (Int.natCast_emod _ _).symm
  have r3 : (c : Int) % (W : Int) = (c3 : Int) := by rw [hc3]; exact (Int.natCast_emod _ _).symm
  have r4 : (c : Int) / (W : Int) = (c2 : Int) := by rw [hc2]; exact (Int.natCast_ediv _ _).symm
  have r5 : (a1 : Int) * (W : Int) = (z1 : Int) := by rw [hz1]; exact (Int.natCast_mul _ _).symm
  have r6 : (z1 : Int) + (c3 : Int) = (u : Int) := by rw [hu]; exact (Int.natCast_add _ _).symm
  have r7 : (c2 : Int) * (S : Int) = (z2 : Int) := by rw [hz2]; exact (Int.natCast_mul _ _).symm
  have r8 : (u : Int) * (U : Int) = (z3 : Int) := by rw [hz3]; exact (Int.natCast_mul _ _).symm
  have HF := hid (And.intro ha1 (And.intro ha2 (And.intro hc3 (And.intro hc2 (And.intro hS (And.intro hz1 (And.intro hu (And.intro hz2 hz3))))))))
  clear ha1 ha2 hc3 hc2 hS hz1 hu hz2 hz3
  have hU : (U : Int) ≠ 0 := by omega
  have hW : (W : Int) ≠ 0 := by omega
  go_wp2_with (at_builtin; refine stopAt ?_; intro q hq)
  go_quiet (fail)
  go_wp2_with (at_builtin; refine stopAt ?_; intro q hq)
  obtain ⟨z4, hz4⟩ : ∃ z, z = z3 + a2 := ⟨_, rfl⟩
  obtain ⟨z5, hz5⟩ : ∃ z, z = z2 + z4 := ⟨_, rfl⟩
  have r9 : (z3 : Int) + (a2 : Int) = (z4 : Int) := by rw [hz4]; exact (Int.natCast_add _ _).symm
  have r10 : (z2 : Int) + (z4 : Int) = (z5 : Int) := by rw [hz5]; exact (Int.natCast_add _ _).symm
  have hb4 : z4 ≤ 268447808 := by omega
  have hb5 : z5 ≤ 536887552 := by omega
  have HG := hid (And.intro hz4 hz5)
  clear hz4 hz5
  have X4 := X3.step ((Keep.refl _ w3).drewN nq)
  clear i0 i1 i2 i3 if1 ib1
  obtain ⟨i0, i1, i2, i3, if1, ib1⟩ := cells4 X4.at_
  obtain ⟨w4, hw4⟩ : ∃ w4, w4 = w3.drewN nq := ⟨_, rfl⟩
  rw [← hw4] at i0 i1 i2 i3 X4 ⊢
  clear hw4
  have j0 := fun s : Later w4 => s.cell i0
  have j1 := fun s : Later w4 => s.cell i1
  have j2 := fun s : Later w4 => s.cell i2
  have j3 := fun s : Later w4 => s.cell i3
  have Hset := hid hset
  clear hset i0 i1 i2 i3 if1 ib1
  (refine wp_region_later (by kernel_rfl) (by kernel_rfl) ?_; (repeat (go_big_quiet_step ((go_at_call 26; exact Later.call (Hset.out _))))); refine wpQuiet_nil ?_; rintro _ ⟨sq, rfl⟩)
  have K5 := hid (X4.step sq.keep).keep
  clear X4 X3 r1 r2 r3 r4 r5 r6 r7 r8 j0 j1 j2 j3
  go_wp2_with (at_builtin; refine stopAt ?_; intro q hq)
  go_ret2
  obtain ⟨rfl, rfl⟩ := HG.out
  obtain ⟨rfl, rfl, rfl, rfl, rfl, rfl, rfl, rfl, rfl⟩ := HF.out
  exact ⟨by unfold SM.bk; rfl, K5.out⟩
end Go.Proofs.Ytmbfglblkpipcaa
