/- SpanBack: the walk. Conditions: none but that the arguments are ints and two words. -/
import Derived.Test.YtmbfglblkpipcaaSpanH
namespace Go.Proofs.Ytmbfglblkpipcaa
open Go.RowKit
open SM

/-- What the laws know of their shape. -/
structure Shaped (B C W U n m : Nat) : Prop where
  ok : ShOk B C W U
  b : B = n * (W * C)
  c : C = U * m
  m0 : 0 < m
  q : B / C = n * W
  u1 : U ≤ 8
  c1 : C ≤ 160
  w1 : W ≤ 6
  b1 : B ≤ 4800

theorem ShLaw.shaped {U m W n : Nat} (h : ShLaw U m W n) : Shaped (n * W * (U * m)) (U * m) W U n m := by
  have c1 : U * m ≤ 8 * 20 := Nat.mul_le_mul h.u1 h.m1
  have nw : n * W ≤ 5 * 6 := Nat.mul_le_mul h.n1 h.w1
  have b1 : n * W * (U * m) ≤ 5 * 6 * (8 * 20) := Nat.mul_le_mul nw c1
  exact ⟨h.ok, Nat.mul_assoc _ _ _, rfl, h.m0, Nat.mul_div_cancel _ (Nat.mul_pos h.u0 h.m0), h.u1, by omega, h.w1, by omega⟩

theorem Shaped.at_lt {B C W U n m : Nat} (h : Shaped B C W U n m) (x : Nat) : (wh C W U x).2 < C := wh_at_lt h.ok.w0 h.ok.u0 h.c h.m0
theorem Shaped.chunk_lt {B C W U n m x : Nat} (h : Shaped B C W U n m) (hx : x < B) : (wh C W U x).1 < B / C := by
  rw [h.q]
  exact wh_chunk_lt h.ok.w0 (by rw [← h.b]; exact hx)

set_option maxRecDepth 20000 in
set_option maxHeartbeats 1000000 in
theorem back_walk (w : World) (a b c d : Int) (ha : -9223372036854775808 ≤ a ∧ a ≤ 9223372036854775807) (hb : -9223372036854775808 ≤ b ∧ b ≤ 9223372036854775807) (hc : -9223372036854775808 ≤ c ∧ c ≤ 9223372036854775807) (hd : -9223372036854775808 ≤ d ∧ d ≤ 9223372036854775807)
    (xi : Int) (hx0 : 0 ≤ xi) (hx1 : xi ≤ 18446744073709551615) (yi : Int) (hy0 : 0 ≤ yi) (hy1 : yi ≤ 18446744073709551615) :
    Calls Try.prog 5 #[.agg #[.int .i64 a, .int .i64 b, .int .i64 c, .int .i64 d], .int .u64 xi, .int .u64 yi] w fun e w' => e = .returned (.bool true) ∧ Keep (fun _ => False) w w' := by
  obtain ⟨x, rfl⟩ : ∃ n : Nat, (n : Int) = xi := ⟨xi.toNat, by omega⟩
  obtain ⟨y, rfl⟩ : ∃ n : Nat, (n : Int) = yi := ⟨yi.toNat, by omega⟩
  go_enter Try.func5, Try.ntmps5
  go_wp2_with (at_builtin; refine stopAt ?_; intro q hq)
  have hkA : Keep (fun _ => False) w (w.alloc (.cells #[.int .i64 a, .int .i64 b, .int .i64 c, .int .i64 d] 22)) := (Keep.refl _ _).alloc _
  obtain ⟨w0, hw0⟩ : ∃ w0, w0 = w.alloc (.cells #[.int .i64 a, .int .i64 b, .int .i64 c, .int .i64 d] 22) := ⟨_, rfl⟩
  rw [← hw0] at hkA ⊢
  clear hw0
  refine (shape_any w0 a b c d ha hb hc hd).mono ?_
  rintro e w1 ⟨U, m, W, n, L, rfl, hk1⟩
  have SH := L.shaped
  obtain ⟨C, hC⟩ : ∃ z, z = U * m := ⟨_, rfl⟩
  rw [← hC] at SH ⊢
  obtain ⟨B, hB⟩ : ∃ z, z = n * W * C := ⟨_, rfl⟩
  rw [← hB] at SH ⊢
  clear hC hB L
  have k01 : Keep (fun _ => False) w w1 := hkA.next hk1 (fun _ _ x => x) (fun _ _ x => x)
  have hB0 : 0 < B := SH.ok.b0
  have hBz : (B : Int) ≠ 0 := by omega
  have hx2 : x % B < B := Nat.mod_lt _ hB0
  have hy2 : y % B < B := Nat.mod_lt _ hB0
  obtain ⟨x', hx'⟩ : ∃ z, z = x % B := ⟨_, rfl⟩
  obtain ⟨y', hy'⟩ : ∃ z, z = y % B := ⟨_, rfl⟩
  have r1 : (x : Int) % (B : Int) = (x' : Int) := by rw [hx']; exact (Int.natCast_emod _ _).symm
  have r2 : (y : Int) % (B : Int) = (y' : Int) := by rw [hy']; exact (Int.natCast_emod _ _).symm
  rw [← hx'] at hx2
  rw [← hy'] at hy2
  have hb1 := SH.b1
  clear hx' hy' hkA hk1
  go_wp2_with (at_builtin; refine stopAt ?_; intro q hq)
  (obtain ⟨w2, hbox⟩ : ∃ wbx, wbx = w1.alloc (.cells #[.int .u64 B, .int .i64 C, .int .i64 W, .int .i64 U] 25) := ⟨_, rfl⟩; have X2 := Boxed.new w1 B C W U; rw [← hbox] at X2 ⊢; clear hbox)
  refine (where_ok B C W U x' SH.ok hx2 w2).mono ?_
  rintro e w3 ⟨rfl, hk3⟩
  have X3 := X2.step hk3
  obtain ⟨i0, i1, i2, i3, if1, ib1⟩ := cells4 X3.at_
  have hcx := SH.chunk_lt hx2
  have hax := SH.at_lt x'
  have hbk : bk C W U (wh C W U x').1 (wh C W U x').2 = x' := bk_wh SH.ok.w0 SH.ok.u0
  obtain ⟨cx, hpx1⟩ : ∃ z, z = (wh C W U x').1 := ⟨_, rfl⟩
  obtain ⟨ax, hpx2⟩ : ∃ z, z = (wh C W U x').2 := ⟨_, rfl⟩
  rw [← hpx1] at hcx hbk ⊢
  rw [← hpx2] at hax hbk ⊢
  have HP1 := hid (And.intro hpx1 hpx2)
  clear hpx1 hpx2
  clear X2 hk3
  go_wp2_with (at_builtin; refine stopAt ?_; intro q hq)
  refine (where_ok B C W U y' SH.ok hy2 w3).mono ?_
  rintro e w4 ⟨rfl, hk4⟩
  have X4 := X3.step hk4
  clear i0 i1 i2 i3 if1 ib1 X3 hk4
  obtain ⟨i0, i1, i2, i3, if1, ib1⟩ := cells4 X4.at_
  have hbk2 : bk C W U (wh C W U y').1 (wh C W U y').2 = y' := bk_wh SH.ok.w0 SH.ok.u0
  obtain ⟨cy, hpy1⟩ : ∃ z, z = (wh C W U y').1 := ⟨_, rfl⟩
  obtain ⟨ay, hpy2⟩ : ∃ z, z = (wh C W U y').2 := ⟨_, rfl⟩
  rw [← hpy1] at hbk2 ⊢
  rw [← hpy2] at hbk2 ⊢
  have HP2 := hid (And.intro hpy1 hpy2)
  have HB := hid (And.intro hbk hbk2)
  clear hpy1 hpy2 hbk hbk2
  go_wp2_with (at_builtin; refine stopAt ?_; intro q hq)
  have hback := back_ok B C W U cx ax SH.ok hcx hax w4
  rw [HB.out.1] at hback
  refine hback.mono ?_
  rintro e w5 ⟨rfl, hk5⟩
  have X5 := X4.step hk5
  clear i0 i1 i2 i3 if1 ib1 X4 hk5 hback
  obtain ⟨i0, i1, i2, i3, if1, ib1⟩ := cells4 X5.at_
  have g1 : decide ((cx : Int) < 0) = false := by simp
  have g2 : decide ((ax : Int) < 0) = false := by simp
  go_wp2_with (at_builtin; refine stopAt ?_; intro q hq)
  refine (chunks_ok B C W U SH.ok w5).mono ?_
  rintro e w6 ⟨rfl, hk6⟩
  have X6 := X5.step hk6
  clear i0 i1 i2 i3 if1 ib1 X5 hk6
  obtain ⟨i0, i1, i2, i3, if1, ib1⟩ := cells4 X6.at_
  obtain ⟨q, hq⟩ : ∃ z, z = B / C := ⟨_, rfl⟩
  rw [← hq] at hcx ⊢
  have g3 : decide (q ≤ cx) = false := by simp; omega
  have g4 : decide (C ≤ ax) = false := by simp; omega
  have K6 := hid (k01.next X6.keep (fun _ _ x => x) (fun _ _ x => x))
  clear hq X6
  by_cases hxy : x' = y'
  · obtain rfl : cx = cy := by rw [HP1.out.1, HP2.out.1, hxy]
    obtain rfl : ax = ay := by rw [HP1.out.2, HP2.out.2, hxy]
    subst hxy
    go_wp2_with (at_builtin; refine stopAt ?_; intro q hq)
    refine (known_any w6).mono ?_
    rintro e w7 ⟨rfl, hk7⟩
    have K7 := hid (K6.out.next hk7 (fun _ _ x => x) (fun _ _ x => x))
    clear hk7
    go_wp2_with (at_builtin; refine stopAt ?_; intro q hq)
    go_ret
    exact ⟨by rfl, K7.out⟩
  · have t1 : ((x' : Int) == (y' : Int)) = false := by simp; omega
    by_cases hcc : cx = cy
    · have t2 : ((ax : Int) == (ay : Int)) = false := by
        simp
        intro h
        apply hxy
        have h2 : ax = ay := by omega
        rw [← HB.out.1, ← HB.out.2, hcc, h2]
      subst hcc
      clear hxy
      go_wp2_with (at_builtin; refine stopAt ?_; intro q hq)
      refine (known_any w6).mono ?_
      rintro e w7 ⟨rfl, hk7⟩
      have K7 := hid (K6.out.next hk7 (fun _ _ x => x) (fun _ _ x => x))
      clear hk7
      go_wp2_with (at_builtin; refine stopAt ?_; intro q hq)
      go_ret
      exact ⟨by rfl, K7.out⟩
    · have t2 : ((cx : Int) == (cy : Int)) = false := by simp; omega
      clear hxy hcc
      go_wp2_with (at_builtin; refine stopAt ?_; intro q hq)
      refine (known_any w6).mono ?_
      rintro e w7 ⟨rfl, hk7⟩
      have K7 := hid (K6.out.next hk7 (fun _ _ x => x) (fun _ _ x => x))
      clear hk7
      go_wp2_with (at_builtin; refine stopAt ?_; intro q hq)
      go_ret
      exact ⟨by rfl, K7.out⟩
end Go.Proofs.Ytmbfglblkpipcaa
