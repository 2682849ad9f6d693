/- span: Split and Touch at a shape or a request that may not be, the program's and the document's. Conditions: as each contract names them. -/
import Derived.Test.YtmbfglblkpipcaaSpanY
namespace Go.Proofs.Ytmbfglblkpipcaa
open Go.RowKit
open SM

set_option maxRecDepth 20000 in
theorem split_bad (B : Nat) (C W U : Int) (x k : Int) (h : ∀ w', Calls Try.prog 16 #[.agg #[.int .u64 (B : Int), .int .i64 C, .int .i64 W, .int .i64 U]] w' fun e w2 => e = .returned (.int .i64 170) ∧ Keep (fun _ => False) w' w2) (w : World) :
    Calls Try.prog 10 #[.agg #[.int .u64 (B : Int), .int .i64 C, .int .i64 W, .int .i64 U], .int .u64 x, .int .i64 k] w fun e w2 => e = .returned (.tuple #[.slice none 0 0, .int .i64 170]) ∧ Keep (fun _ => False) w w2 := by
  go_enter Try.func10, Try.ntmps10
  go_wp2_with (at_builtin; refine stopAt ?_; intro q hq)
  have hk1 : Keep (fun _ => False) w (w.alloc (.cells #[.int .u64 (B : Int), .int .i64 C, .int .i64 W, .int .i64 U] 25)) := (Keep.refl _ _).alloc _
  have hg1 := heap_alloc_new w (.cells #[.int .u64 (B : Int), .int .i64 C, .int .i64 W, .int .i64 U] 25)
  obtain ⟨w1, hw1⟩ : ∃ w1, w1 = w.alloc (.cells #[.int .u64 (B : Int), .int .i64 C, .int .i64 W, .int .i64 U] 25) := ⟨_, rfl⟩
  rw [← hw1] at hk1 hg1 ⊢
  clear hw1
  refine (h w1).mono ?_
  rintro e w2 ⟨rfl, hk2⟩
  have hg2 := hk2.get hg1 id
  obtain ⟨i0, i1, i2, i3, if1, ib1⟩ := cells4 hg2
  have K2 := hid (hk1.next hk2 (fun _ _ x => x) (fun _ _ x => x))
  clear hk1 hk2 hg1 hg2
  go_wp2_with (at_builtin; refine stopAt ?_; intro q hq)
  go_ret2
  exact ⟨rfl, K2.out⟩

set_option maxRecDepth 20000 in
theorem split_neg (B C W U : Nat) (x k : Int) (hk : k < 0) (h : ShOk B C W U) (w : World) :
    Calls Try.prog 10 #[.agg #[.int .u64 (B : Int), .int .i64 (C : Int), .int .i64 (W : Int), .int .i64 (U : Int)], .int .u64 x, .int .i64 k] w fun e w2 => e = .returned (.tuple #[.slice none 0 0, .int .i64 2]) ∧ Keep (fun _ => False) w w2 := by
  have b1 := h.b1
  have d1 : decide (k < 0) = true := by simp; omega
  go_enter Try.func10, Try.ntmps10
  go_wp2_with (at_builtin; refine stopAt ?_; intro q hq)
  (obtain ⟨w1, hbox⟩ : ∃ wbx, wbx = w.alloc (.cells #[.int .u64 B, .int .i64 C, .int .i64 W, .int .i64 U] 25) := ⟨_, rfl⟩; have X1 := Boxed.new w B C W U; rw [← hbox] at X1 ⊢; clear hbox)
  refine (check_ok B C W U h w1).mono ?_
  rintro e w2 ⟨rfl, hk2⟩
  have X2 := X1.step hk2
  obtain ⟨i0, i1, i2, i3, if1, ib1⟩ := cells4 X2.at_
  have K2 := hid X2.keep
  clear X1 X2 hk2
  go_wp2_with (at_builtin; refine stopAt ?_; intro q hq)
  go_ret2
  exact ⟨rfl, K2.out⟩

set_option maxRecDepth 20000 in
theorem split_much (B C W U : Nat) (x k : Int) (hk : 65536 < k) (h : ShOk B C W U) (w : World) :
    Calls Try.prog 10 #[.agg #[.int .u64 (B : Int), .int .i64 (C : Int), .int .i64 (W : Int), .int .i64 (U : Int)], .int .u64 x, .int .i64 k] w fun e w2 => e = .returned (.tuple #[.slice none 0 0, .int .i64 3]) ∧ Keep (fun _ => False) w w2 := by
  have b1 := h.b1
  have d1 : decide (k < 0) = false := by simp; omega
  have d2 : decide (65536 < k) = true := by simp; omega
  go_enter Try.func10, Try.ntmps10
  go_wp2_with (at_builtin; refine stopAt ?_; intro q hq)
  (obtain ⟨w1, hbox⟩ : ∃ wbx, wbx = w.alloc (.cells #[.int .u64 B, .int .i64 C, .int .i64 W, .int .i64 U] 25) := ⟨_, rfl⟩; have X1 := Boxed.new w B C W U; rw [← hbox] at X1 ⊢; clear hbox)
  refine (check_ok B C W U h w1).mono ?_
  rintro e w2 ⟨rfl, hk2⟩
  have X2 := X1.step hk2
  obtain ⟨i0, i1, i2, i3, if1, ib1⟩ := cells4 X2.at_
  have K2 := hid X2.keep
  clear X1 X2 hk2
  go_wp2_with (at_builtin; refine stopAt ?_; intro q hq)
  go_ret2
  exact ⟨rfl, K2.out⟩

set_option maxRecDepth 20000 in
theorem split_past (B C W U : Nat) (xn kn : Nat) (x k : Int) (hx : x = xn) (hkk : k = kn) (hk : kn ≤ 65536) (hl : B < xn) (_hx1 : xn ≤ 18446744073709551615) (h : ShOk B C W U) (w : World) :
    Calls Try.prog 10 #[.agg #[.int .u64 (B : Int), .int .i64 (C : Int), .int .i64 (W : Int), .int .i64 (U : Int)], .int .u64 x, .int .i64 k] w fun e w2 => e = .returned (.tuple #[.slice none 0 0, .int .i64 171]) ∧ Keep (fun _ => False) w w2 := by
  have b1 := h.b1
  subst hx hkk
  have d1 : decide ((kn : Int) < 0) = false := by simp
  have d2 : decide (65536 < kn) = false := by simp; omega
  have d3 : decide (B < xn) = true := by simp; omega
  go_enter Try.func10, Try.ntmps10
  go_wp2_with (at_builtin; refine stopAt ?_; intro q hq)
  (obtain ⟨w1, hbox⟩ : ∃ wbx, wbx = w.alloc (.cells #[.int .u64 B, .int .i64 C, .int .i64 W, .int .i64 U] 25) := ⟨_, rfl⟩; have X1 := Boxed.new w B C W U; rw [← hbox] at X1 ⊢; clear hbox)
  refine (check_ok B C W U h w1).mono ?_
  rintro e w2 ⟨rfl, hk2⟩
  have X2 := X1.step hk2
  obtain ⟨i0, i1, i2, i3, if1, ib1⟩ := cells4 X2.at_
  have K2 := hid X2.keep
  clear X1 X2 hk2
  go_wp2_with (at_builtin; refine stopAt ?_; intro q hq)
  go_ret2
  exact ⟨rfl, K2.out⟩

set_option maxRecDepth 20000 in
theorem split_over (B C W U : Nat) (xn kn : Nat) (x k : Int) (hx : x = xn) (hkk : k = kn) (hk : kn ≤ 65536) (hl : xn ≤ B) (hl2 : B < xn + kn) (h : ShOk B C W U) (w : World) :
    Calls Try.prog 10 #[.agg #[.int .u64 (B : Int), .int .i64 (C : Int), .int .i64 (W : Int), .int .i64 (U : Int)], .int .u64 x, .int .i64 k] w fun e w2 => e = .returned (.tuple #[.slice none 0 0, .int .i64 171]) ∧ Keep (fun _ => False) w w2 := by
  have b1 := h.b1
  subst hx hkk
  have d1 : decide ((kn : Int) < 0) = false := by simp
  have d2 : decide (65536 < kn) = false := by simp; omega
  have d3 : decide (B < xn) = false := by simp; omega
  go_enter Try.func10, Try.ntmps10
  go_wp2_with (at_builtin; refine stopAt ?_; intro q hq)
  (obtain ⟨w1, hbox⟩ : ∃ wbx, wbx = w.alloc (.cells #[.int .u64 B, .int .i64 C, .int .i64 W, .int .i64 U] 25) := ⟨_, rfl⟩; have X1 := Boxed.new w B C W U; rw [← hbox] at X1 ⊢; clear hbox)
  refine (check_ok B C W U h w1).mono ?_
  rintro e w2 ⟨rfl, hk2⟩
  have X2 := X1.step hk2
  obtain ⟨i0, i1, i2, i3, if1, ib1⟩ := cells4 X2.at_
  have K2 := hid X2.keep
  clear X1 X2 hk2
  go_wp2_with (at_builtin; refine stopAt ?_; intro q hq)
  go_ret2
  exact ⟨rfl, K2.out⟩

set_option maxRecDepth 20000 in
theorem touch_err (B : Nat) (C W U : Int) (x k E : Int) (hE : E ≠ 0) (h : ∀ w, Calls Try.prog 10 #[.agg #[.int .u64 (B : Int), .int .i64 C, .int .i64 W, .int .i64 U], .int .u64 x, .int .i64 k] w fun e w2 => e = .returned (.tuple #[.slice none 0 0, .int .i64 E]) ∧ Keep (fun _ => False) w w2) (w : World) :
    Calls Try.prog 21 #[.agg #[.int .u64 (B : Int), .int .i64 C, .int .i64 W, .int .i64 U], .int .u64 x, .int .i64 k] w fun e w2 => e = .returned (.tuple #[.slice none 0 0, .int .i64 E]) ∧ Keep (fun _ => False) w w2 := by
  have q1 : (E == 0) = false := by simp [hE]
  have q2 : decide (E = 0) = false := by simp [hE]
  have q3 : (E != 0) = true := by simp [hE]
  go_enter Try.func21, Try.ntmps21
  go_wp2_with (at_builtin; refine stopAt ?_; intro q hq)
  have hk1 : Keep (fun _ => False) w (w.alloc (.cells #[.int .u64 (B : Int), .int .i64 C, .int .i64 W, .int .i64 U] 25)) := (Keep.refl _ _).alloc _
  have hg1 := heap_alloc_new w (.cells #[.int .u64 (B : Int), .int .i64 C, .int .i64 W, .int .i64 U] 25)
  obtain ⟨w1, hw1⟩ : ∃ w1, w1 = w.alloc (.cells #[.int .u64 (B : Int), .int .i64 C, .int .i64 W, .int .i64 U] 25) := ⟨_, rfl⟩
  rw [← hw1] at hk1 hg1 ⊢
  clear hw1
  refine (h w1).mono ?_
  rintro e w2 ⟨rfl, hk2⟩
  have K2 := hid (hk1.next hk2 (fun _ _ x => x) (fun _ _ x => x))
  clear hk1 hk2 hg1
  go_wp2_with (at_builtin; refine stopAt ?_; intro q hq)
  go_ret2
  exact ⟨rfl, K2.out⟩

set_option maxRecDepth 20000 in
theorem rsplit_bad (B : Nat) (C W U : Int) (x k : Int) (h : ∀ w', Calls Try.prog 17 #[.agg #[.int .u64 (B : Int), .int .i64 C, .int .i64 W, .int .i64 U]] w' fun e w2 => e = .returned (.int .i64 170) ∧ Keep (fun _ => False) w' w2) (w : World) :
    Calls Try.prog 20 #[.agg #[.int .u64 (B : Int), .int .i64 C, .int .i64 W, .int .i64 U], .int .u64 x, .int .i64 k] w fun e w2 => e = .returned (.tuple #[.slice none 0 0, .int .i64 170]) ∧ Keep (fun _ => False) w w2 := by
  go_enter Try.func20, Try.ntmps20
  go_wp2_with (at_builtin; refine stopAt ?_; intro q hq)
  have hk1 : Keep (fun _ => False) w (w.alloc (.cells #[.int .u64 (B : Int), .int .i64 C, .int .i64 W, .int .i64 U] 25)) := (Keep.refl _ _).alloc _
  have hg1 := heap_alloc_new w (.cells #[.int .u64 (B : Int), .int .i64 C, .int .i64 W, .int .i64 U] 25)
  obtain ⟨w1, hw1⟩ : ∃ w1, w1 = w.alloc (.cells #[.int .u64 (B : Int), .int .i64 C, .int .i64 W, .int .i64 U] 25) := ⟨_, rfl⟩
  rw [← hw1] at hk1 hg1 ⊢
  clear hw1
  refine (h w1).mono ?_
  rintro e w2 ⟨rfl, hk2⟩
  have hg2 := hk2.get hg1 id
  obtain ⟨i0, i1, i2, i3, if1, ib1⟩ := cells4 hg2
  have K2 := hid (hk1.next hk2 (fun _ _ x => x) (fun _ _ x => x))
  clear hk1 hk2 hg1 hg2
  go_wp2_with (at_builtin; refine stopAt ?_; intro q hq)
  go_ret2
  exact ⟨rfl, K2.out⟩

set_option maxRecDepth 20000 in
theorem rsplit_neg (B C W U : Nat) (x k : Int) (hk : k < 0) (h : ShOk B C W U) (w : World) :
    Calls Try.prog 20 #[.agg #[.int .u64 (B : Int), .int .i64 (C : Int), .int .i64 (W : Int), .int .i64 (U : Int)], .int .u64 x, .int .i64 k] w fun e w2 => e = .returned (.tuple #[.slice none 0 0, .int .i64 2]) ∧ Keep (fun _ => False) w w2 := by
  have b1 := h.b1
  have d1 : decide (k < 0) = true := by simp; omega
  go_enter Try.func20, Try.ntmps20
  go_wp2_with (at_builtin; refine stopAt ?_; intro q hq)
  (obtain ⟨w1, hbox⟩ : ∃ wbx, wbx = w.alloc (.cells #[.int .u64 B, .int .i64 C, .int .i64 W, .int .i64 U] 25) := ⟨_, rfl⟩; have X1 := Boxed.new w B C W U; rw [← hbox] at X1 ⊢; clear hbox)
  refine (rcheck_ok B C W U h w1).mono ?_
  rintro e w2 ⟨rfl, hk2⟩
  have X2 := X1.step hk2
  obtain ⟨i0, i1, i2, i3, if1, ib1⟩ := cells4 X2.at_
  have K2 := hid X2.keep
  clear X1 X2 hk2
  go_wp2_with (at_builtin; refine stopAt ?_; intro q hq)
  go_ret2
  exact ⟨rfl, K2.out⟩

set_option maxRecDepth 20000 in
theorem rsplit_much (B C W U : Nat) (x k : Int) (hk : 65536 < k) (h : ShOk B C W U) (w : World) :
    Calls Try.prog 20 #[.agg #[.int .u64 (B : Int), .int .i64 (C : Int), .int .i64 (W : Int), .int .i64 (U : Int)], .int .u64 x, .int .i64 k] w fun e w2 => e = .returned (.tuple #[.slice none 0 0, .int .i64 3]) ∧ Keep (fun _ => False) w w2 := by
  have b1 := h.b1
  have d1 : decide (k < 0) = false := by simp; omega
  have d2 : decide (65536 < k) = true := by simp; omega
  go_enter Try.func20, Try.ntmps20
  go_wp2_with (at_builtin; refine stopAt ?_; intro q hq)
  (obtain ⟨w1, hbox⟩ : ∃ wbx, wbx = w.alloc (.cells #[.int .u64 B, .int .i64 C, .int .i64 W, .int .i64 U] 25) := ⟨_, rfl⟩; have X1 := Boxed.new w B C W U; rw [← hbox] at X1 ⊢; clear hbox)
  refine (rcheck_ok B C W U h w1).mono ?_
  rintro e w2 ⟨rfl, hk2⟩
  have X2 := X1.step hk2
  obtain ⟨i0, i1, i2, i3, if1, ib1⟩ := cells4 X2.at_
  have K2 := hid X2.keep
  clear X1 X2 hk2
  go_wp2_with (at_builtin; refine stopAt ?_; intro q hq)
  go_ret2
  exact ⟨rfl, K2.out⟩

set_option maxRecDepth 20000 in
theorem rsplit_past (B C W U : Nat) (xn kn : Nat) (x k : Int) (hx : x = xn) (hkk : k = kn) (hk : kn ≤ 65536) (hl : B < xn) (_hx1 : xn ≤ 18446744073709551615) (h : ShOk B C W U) (w : World) :
    Calls Try.prog 20 #[.agg #[.int .u64 (B : Int), .int .i64 (C : Int), .int .i64 (W : Int), .int .i64 (U : Int)], .int .u64 x, .int .i64 k] w fun e w2 => e = .returned (.tuple #[.slice none 0 0, .int .i64 171]) ∧ Keep (fun _ => False) w w2 := by
  have b1 := h.b1
  subst hx hkk
  have d1 : decide ((kn : Int) < 0) = false := by simp
  have d2 : decide (65536 < kn) = false := by simp; omega
  have d3 : decide (B < xn) = true := by simp; omega
  go_enter Try.func20, Try.ntmps20
  go_wp2_with (at_builtin; refine stopAt ?_; intro q hq)
  (obtain ⟨w1, hbox⟩ : ∃ wbx, wbx = w.alloc (.cells #[.int .u64 B, .int .i64 C, .int .i64 W, .int .i64 U] 25) := ⟨_, rfl⟩; have X1 := Boxed.new w B C W U; rw [← hbox] at X1 ⊢; clear hbox)
  refine (rcheck_ok B C W U h w1).mono ?_
  rintro e w2 ⟨rfl, hk2⟩
  have X2 := X1.step hk2
  obtain ⟨i0, i1, i2, i3, if1, ib1⟩ := cells4 X2.at_
  have K2 := hid X2.keep
  clear X1 X2 hk2
  go_wp2_with (at_builtin; refine stopAt ?_; intro q hq)
  go_ret2
  exact ⟨rfl, K2.out⟩

set_option maxRecDepth 20000 in
theorem rsplit_over (B C W U : Nat) (xn kn : Nat) (x k : Int) (hx : x = xn) (hkk : k = kn) (hk : kn ≤ 65536) (hl : xn ≤ B) (hl2 : B < xn + kn) (h : ShOk B C W U) (w : World) :
    Calls Try.prog 20 #[.agg #[.int .u64 (B : Int), .int .i64 (C : Int), .int .i64 (W : Int), .int .i64 (U : Int)], .int .u64 x, .int .i64 k] w fun e w2 => e = .returned (.tuple #[.slice none 0 0, .int .i64 171]) ∧ Keep (fun _ => False) w w2 := by
  have b1 := h.b1
  subst hx hkk
  have d1 : decide ((kn : Int) < 0) = false := by simp
  have d2 : decide (65536 < kn) = false := by simp; omega
  have d3 : decide (B < xn) = false := by simp; omega
  go_enter Try.func20, Try.ntmps20
  go_wp2_with (at_builtin; refine stopAt ?_; intro q hq)
  (obtain ⟨w1, hbox⟩ : ∃ wbx, wbx = w.alloc (.cells #[.int .u64 B, .int .i64 C, .int .i64 W, .int .i64 U] 25) := ⟨_, rfl⟩; have X1 := Boxed.new w B C W U; rw [← hbox] at X1 ⊢; clear hbox)
  refine (rcheck_ok B C W U h w1).mono ?_
  rintro e w2 ⟨rfl, hk2⟩
  have X2 := X1.step hk2
  obtain ⟨i0, i1, i2, i3, if1, ib1⟩ := cells4 X2.at_
  have K2 := hid X2.keep
  clear X1 X2 hk2
  go_wp2_with (at_builtin; refine stopAt ?_; intro q hq)
  go_ret2
  exact ⟨rfl, K2.out⟩

set_option maxRecDepth 20000 in
theorem rtouch_err (B : Nat) (C W U : Int) (x k E : Int) (hE : E ≠ 0) (h : ∀ w, Calls Try.prog 20 #[.agg #[.int .u64 (B : Int), .int .i64 C, .int .i64 W, .int .i64 U], .int .u64 x, .int .i64 k] w fun e w2 => e = .returned (.tuple #[.slice none 0 0, .int .i64 E]) ∧ Keep (fun _ => False) w w2) (w : World) :
    Calls Try.prog 22 #[.agg #[.int .u64 (B : Int), .int .i64 C, .int .i64 W, .int .i64 U], .int .u64 x, .int .i64 k] w fun e w2 => e = .returned (.tuple #[.slice none 0 0, .int .i64 E]) ∧ Keep (fun _ => False) w w2 := by
  have q1 : (E == 0) = false := by simp [hE]
  have q2 : decide (E = 0) = false := by simp [hE]
  have q3 : (E != 0) = true := by simp [hE]
  go_enter Try.func22, Try.ntmps22
  go_wp2_with (at_builtin; refine stopAt ?_; intro q hq)
  have hk1 : Keep (fun _ => False) w (w.alloc (.cells #[.int .u64 (B : Int), .int .i64 C, .int .i64 W, .int .i64 U] 25)) := (Keep.refl _ _).alloc _
  have hg1 := heap_alloc_new w (.cells #[.int .u64 (B : Int), .int .i64 C, .int .i64 W, .int .i64 U] 25)
  obtain ⟨w1, hw1⟩ : ∃ w1, w1 = w.alloc (.cells #[.int .u64 (B : Int), .int .i64 C, .int .i64 W, .int .i64 U] 25) := ⟨_, rfl⟩
  rw [← hw1] at hk1 hg1 ⊢
  clear hw1
  refine (h w1).mono ?_
  rintro e w2 ⟨rfl, hk2⟩
  have K2 := hid (hk1.next hk2 (fun _ _ x => x) (fun _ _ x => x))
  clear hk1 hk2 hg1
  go_wp2_with (at_builtin; refine stopAt ?_; intro q hq)
  go_ret2
  exact ⟨rfl, K2.out⟩

end Go.Proofs.Ytmbfglblkpipcaa
