/- The document's span: contracts for Check, Chunks, Where and Back at a shape that may be. Conditions: as each contract names them. -/
import Derived.Test.YtmbfglblkpipcaaSpanW
namespace Go.Proofs.Ytmbfglblkpipcaa
open Go.RowKit
open SM

set_option maxRecDepth 20000 in
theorem rcheck_ok (B C W U : Nat) (h : ShOk B C W U) (w : World) :
    Calls Try.prog 17 #[.agg #[.int .u64 B, .int .i64 C, .int .i64 W, .int .i64 U]] w fun e w' => e = .returned (.int .i64 0) ∧ Keep (fun _ => False) w w' := by
  obtain ⟨u0, u1, c0, c1, cu, w0, w1', b0, b1, bs, bc⟩ := h
  have d1 : decide ((U : Int) < 1) = false := by simp; omega
  have d2 : decide ((256 : Int) < U) = false := by simp; omega
  have d3 : decide ((C : Int) < 1) = false := by simp; omega
  have d4 : decide ((65536 : Int) < C) = false := by simp; omega
  have d5 : (C : Int) % (U : Int) = 0 := by rw [← Int.natCast_emod, cu]; rfl
  have d6 : decide ((W : Int) < 1) = false := by simp; omega
  have d7 : decide ((16 : Int) < W) = false := by simp; omega
  have hU : (U : Int) ≠ 0 := by omega
  have e1 : decide ((B : Int) < 1) = false := by simp; omega
  have e2 : decide ((1099511627776 : Int) < B) = false := by simp; omega
  have hm : W * C ≤ 16 * 65536 := Nat.mul_le_mul w1' c1
  obtain ⟨S, hS⟩ : ∃ S, S = W * C := ⟨_, rfl⟩
  rw [← hS] at bs hm
  have hS0 : 0 < S := by rw [hS]; exact Nat.mul_pos w0 c0
  have r1 : (W : Int) * (C : Int) = (S : Int) := by rw [hS]; exact (Int.natCast_mul _ _).symm
  have hSz : (S : Int) ≠ 0 := by omega
  have hCz : (C : Int) ≠ 0 := by omega
  have k1 : (B : Int) % (S : Int) = 0 := by rw [← Int.natCast_emod, bs]; rfl
  obtain ⟨bq, hbq⟩ : ∃ q, q = B / C := ⟨_, rfl⟩
  rw [← hbq] at bc
  have k2 : (B : Int) / (C : Int) = (bq : Int) := by rw [← Int.natCast_ediv, ← hbq]
  have k3 : decide ((256 : Int) < (bq : Int)) = false := by simp; omega
  have k4 := wrapU C (by omega)
  have k5 := wrapU S (by omega)
  clear hS hbq
  go_enter Try.func17, Try.ntmps17
  go_wp2_with (at_builtin; refine stopAt ?_; intro q hq)
  go_ret
  exact ⟨by rfl, (Keep.refl _ _).alloc _⟩

set_option maxRecDepth 20000 in
theorem rchunks_ok (B C W U : Nat) (h : ShOk B C W U) (w : World) :
    Calls Try.prog 19 #[.agg #[.int .u64 B, .int .i64 C, .int .i64 W, .int .i64 U]] w fun e w' => e = .returned (.int .i64 ((B / C : Nat) : Int)) ∧ Keep (fun _ => False) w w' := by
  have c0 := h.c0
  have c1 := h.c1
  have b1 := h.b1
  have bc := h.bc
  go_enter Try.func19, Try.ntmps19
  go_wp2_with (at_builtin; refine stopAt ?_; intro q hq)
  (obtain ⟨w1, hbox⟩ : ∃ wbx, wbx = w.alloc (.cells #[.int .u64 B, .int .i64 C, .int .i64 W, .int .i64 U] 25) := ⟨_, rfl⟩; have X1 := Boxed.new w B C W U; rw [← hbox] at X1 ⊢; clear hbox)
  refine (rcheck_ok B C W U h w1).mono ?_
  rintro e w2 ⟨rfl, hk2⟩
  have X2 := X1.step hk2
  obtain ⟨i0, i1, i2, i3, if1, ib1⟩ := cells4 X2.at_
  obtain ⟨q, hq⟩ : ∃ q, q = B / C := ⟨_, rfl⟩
  have r1 : (B : Int) / (C : Int) = (q : Int) := by rw [hq]; exact (Int.natCast_ediv _ _).symm
  have r2 : IntKind.u64.wrap (C : Int) = (C : Int) := by rw [IntKind.wrap_u64]; omega
  rw [← hq] at bc
  have K2 := hid X2.keep
  have HQ := hid hq
  clear hq X1 X2 hk2
  go_wp2_with (at_builtin; refine stopAt ?_; intro q hq)
  go_ret
  exact ⟨by rw [← HQ.out]; rfl, K2.out⟩

set_option maxRecDepth 20000 in
set_option maxHeartbeats 400000 in
theorem rwhere_ok (B C W U x : Nat) (h : ShOk B C W U) (hx : x < B) (w : World) :
    Calls Try.prog 13 #[.agg #[.int .u64 B, .int .i64 C, .int .i64 W, .int .i64 U], .int .u64 x] w fun e w' =>
      e = .returned (.tuple #[.int .i64 ((SM.wh C W U x).1 : Nat), .int .i64 ((SM.wh C W U x).2 : Nat), .int .i64 0]) ∧ Keep (fun _ => False) w w' := by
  have u0 := h.u0
  have u1 := h.u1
  have c0 := h.c0
  have c1 := h.c1
  have w0 := h.w0
  have w1' := h.w1
  have b1' := h.b1
  have hx1 : decide (B ≤ x) = false := by simp; omega
  go_enter Try.func13, Try.ntmps13
  go_wp2_with (at_builtin; refine stopAt ?_; intro q hq)
  (obtain ⟨w1, hbox⟩ : ∃ wbx, wbx = w.alloc (.cells #[.int .u64 B, .int .i64 C, .int .i64 W, .int .i64 U] 25) := ⟨_, rfl⟩; have X1 := Boxed.new w B C W U; rw [← hbox] at X1 ⊢; clear hbox)
  refine (rcheck_ok B C W U h w1).mono ?_
  rintro e w3 ⟨rfl, hk2⟩
  have X2 := X1.step hk2
  obtain ⟨i0, i1, i2, i3, if1, ib1⟩ := cells4 X2.at_
  have Hk3 := hid X2.keep
  clear X1 hk2 X2
  obtain ⟨S, hS⟩ : ∃ S, S = W * C := ⟨_, rfl⟩
  have hS0 : 0 < S := by rw [hS]; exact Nat.mul_pos w0 c0
  have hS1 : S ≤ 1048576 := by have h := Nat.mul_le_mul w1' c1; rw [← hS] at h; omega
  have r7 : (W : Int) * (C : Int) = (S : Int) := by rw [hS]; exact (Int.natCast_mul _ _).symm
  have HS := hid hS
  clear hS
  have hq := Nat.div_le_self x S
  have ho := Nat.mod_lt x hS0
  obtain ⟨q, hqe⟩ : ∃ q, q = x / S := ⟨_, rfl⟩
  obtain ⟨o, hoe⟩ : ∃ o, o = x % S := ⟨_, rfl⟩
  rw [← hqe] at hq
  rw [← hoe] at ho
  have r8 : (x : Int) / (S : Int) = (q : Int) := by rw [hqe]; exact (Int.natCast_ediv _ _).symm
  have r9 : (x : Int) % (S : Int) = (o : Int) := by rw [hoe]; exact (Int.natCast_emod _ _).symm
  have HE := hid (And.intro hqe hoe)
  clear hqe hoe
  have hSz : (S : Int) ≠ 0 := by omega
  have k5 := wrapU S (by omega)
  have hU : (U : Int) ≠ 0 := by omega
  have hW : (W : Int) ≠ 0 := by omega
  have b1 : o / U ≤ o := Nat.div_le_self o U
  have b2 : o % U < U := Nat.mod_lt _ (by omega)
  have b3 : o / U % W < W := Nat.mod_lt _ (by omega)
  have b4 : o / U / W * U ≤ o := Nat.le_trans (Nat.mul_le_mul_right _ (Nat.div_le_self _ _)) (Nat.div_mul_le_self o U)
  have b5 : q * W ≤ x * 16 := Nat.mul_le_mul hq w1'
  obtain ⟨u, hu⟩ : ∃ u, u = o / U := ⟨_, rfl⟩
  obtain ⟨r, hr⟩ : ∃ r, r = o % U := ⟨_, rfl⟩
  rw [← hu] at b1 b3 b4
  rw [← hr] at b2
  obtain ⟨u1', hu1⟩ : ∃ u1, u1 = u % W := ⟨_, rfl⟩
  have b6 : u / W ≤ u := Nat.div_le_self u W
  obtain ⟨u2, hu2⟩ : ∃ u2, u2 = u / W := ⟨_, rfl⟩
  rw [← hu1] at b3
  rw [← hu2] at b4 b6
  obtain ⟨v, hv⟩ : ∃ v, v = u2 * U := ⟨_, rfl⟩
  obtain ⟨z, hz⟩ : ∃ z, z = q * W := ⟨_, rfl⟩
  rw [← hv] at b4
  rw [← hz] at b5
  have r1 : (o : Int) / (U : Int) = (u : Int) := by rw [hu]; exact (Int.natCast_ediv _ _).symm
  have r2 : (o : Int) % (U : Int) = (r : Int) := by rw [hr]; exact (Int.natCast_emod _ _).symm
  have r3 : (u : Int) % (W : Int) = (u1' : Int) := by rw [hu1]; exact (Int.natCast_emod _ _).symm
  have r4 : (u : Int) / (W : Int) = (u2 : Int) := by rw [hu2]; exact (Int.natCast_ediv _ _).symm
  have r5 : (u2 : Int) * (U : Int) = (v : Int) := by rw [hv]; exact (Int.natCast_mul _ _).symm
  have r6 : (q : Int) * (W : Int) = (z : Int) := by rw [hz]; exact (Int.natCast_mul _ _).symm
  have HF := hid (And.intro hu (And.intro hr (And.intro hu1 (And.intro hu2 (And.intro hv hz)))))
  clear hu hr hu1 hu2 hv hz
  have hb1 : u ≤ 1048576 := by omega
  have hb2 : v ≤ 1048576 := by omega
  go_wp2_with (at_builtin; refine stopAt ?_; intro q hq)
  go_quiet (fail)
  go_wp2_with (at_builtin; refine stopAt ?_; intro q hq)
  clear r1 r2 r3 r4 r5 r6 r7 r8 r9
  go_ret3
  obtain ⟨rfl, rfl, rfl, rfl, rfl, rfl⟩ := HF.out
  obtain ⟨rfl, rfl⟩ := HE.out
  refine ⟨?_, Hk3.out.drewN _⟩
  unfold SM.wh
  rw [← HS.out]
  rfl

set_option maxRecDepth 20000 in
set_option maxHeartbeats 400000 in
theorem rback_ok (B C W U c a : Nat) (h : ShOk B C W U) (hc : c < B / C) (ha : a < C) (w : World) :
    Calls Try.prog 15 #[.agg #[.int .u64 B, .int .i64 C, .int .i64 W, .int .i64 U], .int .i64 c, .int .i64 a] w fun e w' =>
      e = .returned (.tuple #[.int .u64 ((SM.bk C W U c a : Nat) : Int), .int .i64 0]) ∧ Keep (fun _ => False) w w' := by
  have bc := h.bc
  have c1 := h.c1
  have u0 := h.u0
  have u1 := h.u1
  have w0 := h.w0
  have w1' := h.w1
  go_enter Try.func15, Try.ntmps15
  go_wp2_with (at_builtin; refine stopAt ?_; intro q hq)
  (obtain ⟨w1, hbox⟩ : ∃ wbx, wbx = w.alloc (.cells #[.int .u64 B, .int .i64 C, .int .i64 W, .int .i64 U] 25) := ⟨_, rfl⟩; have X1 := Boxed.new w B C W U; rw [← hbox] at X1 ⊢; clear hbox)
  refine (rcheck_ok B C W U h w1).mono ?_
  rintro e w2 ⟨rfl, hk2⟩
  have X2 := X1.step hk2
  obtain ⟨i0, i1, i2, i3, if1, ib1⟩ := cells4 X2.at_
  clear X1 hk2
  have d1 : decide ((c : Int) < 0) = false := by simp
  have d3 : decide ((a : Int) < 0) = false := by simp
  have d4 : decide (C ≤ a) = false := by simp; omega
  go_wp2_with (at_builtin; refine stopAt ?_; intro q hq)
  refine (rchunks_ok B C W U h w2).mono ?_
  rintro e w3 ⟨rfl, hk3⟩
  have X3 := X2.step hk3
  clear i0 i1 i2 i3 if1 ib1 hk3 X2
  obtain ⟨i0, i1, i2, i3, if1, ib1⟩ := cells4 X3.at_
  obtain ⟨q, hq⟩ : ∃ q, q = B / C := ⟨_, rfl⟩
  rw [← hq] at hc bc ⊢
  clear hq
  have d2 : decide (q ≤ c) = false := by simp; omega
  have m1 : a / U ≤ a := Nat.div_le_self a U
  have m2 : a % U < U := Nat.mod_lt _ u0
  have m3 : c % W < W := Nat.mod_lt _ w0
  have m4 : c / W ≤ c := Nat.div_le_self c W
  have m5 : a / U * W ≤ 65536 * 16 := Nat.mul_le_mul (by omega) w1'
  have m6 : (a / U * W + c % W) * U ≤ (65536 * 16 + 16) * 256 := Nat.mul_le_mul (by omega) u1
  have m7 : c / W * W ≤ 256 * 16 := Nat.mul_le_mul (by omega) w1'
  have m8 : c / W * W * C ≤ 256 * 16 * 65536 := Nat.mul_le_mul m7 c1
  obtain ⟨a1, ha1⟩ : ∃ z, z = a / U := ⟨_, rfl⟩
  obtain ⟨a2, ha2⟩ : ∃ z, z = a % U := ⟨_, rfl⟩
  obtain ⟨c3, hc3⟩ : ∃ z, z = c % W := ⟨_, rfl⟩
  obtain ⟨c2, hc2⟩ : ∃ z, z = c / W := ⟨_, rfl⟩
  rw [← ha1] at m1 m5 m6
  rw [← ha2] at m2
  rw [← hc3] at m3 m6
  rw [← hc2] at m4 m7 m8
  obtain ⟨S, hS⟩ : ∃ z, z = c2 * W := ⟨_, rfl⟩
  rw [← hS] at m7 m8
  obtain ⟨z1, hz1⟩ : ∃ z, z = a1 * W := ⟨_, rfl⟩
  rw [← hz1] at m5 m6
  obtain ⟨u, hu⟩ : ∃ z, z = z1 + c3 := ⟨_, rfl⟩
  have hu1 : u ≤ 1048592 := by omega
  rw [← hu] at m6
  obtain ⟨z2, hz2⟩ : ∃ z, z = S * C := ⟨_, rfl⟩
  obtain ⟨z3, hz3⟩ : ∃ z, z = u * U := ⟨_, rfl⟩
  rw [← hz2] at m8
  rw [← hz3] at m6
  obtain ⟨z4, hz4⟩ : ∃ z, z = z3 + a2 := ⟨_, rfl⟩
  obtain ⟨z5, hz5⟩ : ∃ z, z = z2 + z4 := ⟨_, rfl⟩
  have r1 : (a : Int) / (U : Int) = (a1 : Int) := by rw [ha1]; exact (Int.natCast_ediv _ _).symm
  have r2 : (a : Int) % (U : Int) = (a2 : Int) := by rw [ha2]; exact (Int.natCast_emod _ _).symm
  have r3 : (c : Int) % (W : Int) = (c3 : Int) := by rw [hc3]; exact (Int.natCast_emod _ _).symm
  have r4 : (c : Int) / (W : Int) = (c2 : Int) := by rw [hc2]; exact (Int.natCast_ediv _ _).symm
  have r5 : (a1 : Int) * (W : Int) = (z1 : Int) := by rw [hz1]; exact (Int.natCast_mul _ _).symm
  have r6 : (z1 : Int) + (c3 : Int) = (u : Int) := by rw [hu]; exact (Int.natCast_add _ _).symm
  have r7 : (c2 : Int) * (W : Int) = (S : Int) := by rw [hS]; exact (Int.natCast_mul _ _).symm
  have r8 : (u : Int) * (U : Int) = (z3 : Int) := by rw [hz3]; exact (Int.natCast_mul _ _).symm
  have r9 : (z3 : Int) + (a2 : Int) = (z4 : Int) := by rw [hz4]; exact (Int.natCast_add _ _).symm
  have r10 : (z2 : Int) + (z4 : Int) = (z5 : Int) := by rw [hz5]; exact (Int.natCast_add _ _).symm
  have r11 : (S : Int) * (C : Int) = (z2 : Int) := by rw [hz2]; exact (Int.natCast_mul _ _).symm
  have hb4 : z4 ≤ 268447808 := by omega
  have hb5 : z5 ≤ 536887552 := by omega
  have HF := hid (And.intro ha1 (And.intro ha2 (And.intro hc3 (And.intro hc2 (And.intro hS (And.intro hz1 (And.intro hu (And.intro hz2 (And.intro hz3 (And.intro hz4 hz5))))))))))
  clear ha1 ha2 hc3 hc2 hS hz1 hu hz2 hz3 hz4 hz5
  have hU : (U : Int) ≠ 0 := by omega
  have hW : (W : Int) ≠ 0 := by omega
  have K3 := hid X3.keep
  clear X3
  go_wp2_with (at_builtin; refine stopAt ?_; intro q hq)
  go_quiet (fail)
  go_wp2_with (at_builtin; refine stopAt ?_; intro q hq)
  go_quiet (fail)
  go_wp2_with (at_builtin; refine stopAt ?_; intro q hq)
  clear r1 r2 r3 r4 r5 r6 r7 r8 r9 r10 r11
  go_ret2
  obtain ⟨rfl, rfl, rfl, rfl, rfl, rfl, rfl, rfl, rfl, rfl, rfl⟩ := HF.out
  exact ⟨by unfold SM.bk; rw [← Nat.mul_assoc]; rfl, (K3.out.drewN _).drewN _⟩
end Go.Proofs.Ytmbfglblkpipcaa
