/- span: contracts for the functions of one block. Conditions: as each contract names them. -/
import Derived.Test.YtmbfglblkpipcaaChecked
import Derived.Test.YtmbfglblkpipcaaBase
import Derived.Test.YtmbfglblkpipcaaSpanM
import Derived.Test.YtmbfglblkpipcaaGuard
import Derived.WalkKit
import Derived.WalkLawsBesides
import Derived.WalkSpells
import Derived.BigQuiet
import Derived.Lib.Mul64
import Derived.Laws.Bits64b
namespace Go.Proofs.Ytmbfglblkpipcaa
open Go.RowKit

theorem low32 (a : Nat) (ha : a < 4294967296) : bits .and .u64 (a : Int) 4294967295 = (a : Int) := by
  have h := bits_and_u64_nat a 4294967295 (by omega) (by omega)
  have e : a &&& 4294967295 = a % 4294967296 := Nat.and_two_pow_sub_one_eq_mod a 32
  rw [e, Nat.mod_eq_of_lt ha] at h
  exact h
theorem high32 (a : Nat) (ha : a < 4294967296) : (a : Int) / 4294967296 = 0 := by omega

set_option maxRecDepth 20000 in
/-- The product of two small ones. -/
theorem mul_small (x y : Nat) (hx : x < 65537) (hy : y < 65537) (h : x * y < 4294967296) (w : World) :
    Calls Try.prog 30 #[.int .u64 x, .int .u64 y] w fun e w' => e = .returned (.tuple #[.int .u64 0, .int .u64 ((x * y : Nat) : Int)]) ∧ w = w' := by
  have e1 := low32 x (by omega)
  have e2 := low32 y (by omega)
  have e3 := high32 x (by omega)
  have e4 := high32 y (by omega)
  obtain ⟨p, hp⟩ : ∃ p, p = x * y := ⟨_, rfl⟩
  have hp' : (x : Int) * (y : Int) = (p : Int) := by rw [hp]; exact (Int.natCast_mul x y).symm
  rw [← hp] at h ⊢
  clear hp
  have e5 := high32 p h
  have e6 : bits .and .u64 0 4294967295 = 0 := by decide
  go_enter Try.func30, Try.ntmps30
  go_wp2
  go_ret2
  exact ⟨rfl, rfl⟩

set_option maxRecDepth 20000 in
theorem div_zero (x y : Nat) (hx : x < 18446744073709551616) (hy : 0 < y) (hy2 : y < 18446744073709551616) (w : World) :
    Calls Try.prog 29 #[.int .u64 0, .int .u64 x, .int .u64 y] w fun e w' => e = .returned (.tuple #[.int .u64 ((x / y : Nat) : Int), .int .u64 ((x % y : Nat) : Int)]) ∧ Keep (fun _ => False) w w' := by
  have c1 : ((y : Int) == 0) = false := by simp; omega
  have c2 : decide (y = 0) = false := by simp; omega
  have c3 : (y : Int) ≠ 0 := by omega
  go_enter Try.func29, Try.ntmps29
  go_wp2
  go_quiet (fail)
  go_wp2
  have e1 : IntKind.u64.wrap ((x : Int) / (y : Int)) = (x : Int) / (y : Int) := by
    have h1 : (x : Int) / (y : Int) = ((x / y : Nat) : Int) := (Int.natCast_ediv x y).symm
    have h2 := Nat.div_le_self x y
    obtain ⟨z, hz⟩ : ∃ z, z = x / y := ⟨_, rfl⟩
    rw [← hz] at h1 h2
    rw [h1, IntKind.wrap_u64]
    omega
  go_ret2
  exact ⟨by simp [e1], (Keep.refl _ _).drewN _⟩

theorem cells4 {w : World} {b : Nat} {T : TypeId} {a0 a1 a2 a3 : Value} (H : w.heap[b]? = some (.cells #[a0, a1, a2, a3] T (0, 0))) :
    w.cell? ⟨b, 0, none⟩ = some a0 ∧ w.cell? ⟨b, 1, none⟩ = some a1 ∧ w.cell? ⟨b, 2, none⟩ = some a2 ∧ w.cell? ⟨b, 3, none⟩ = some a3 ∧ (∀ o, w.frozen? ⟨b, o, none⟩ = false) ∧ b < w.heap.size := by
  refine ⟨?_, ?_, ?_, ?_, ?_, heap_lt H⟩ <;> simp [World.cell?, World.frozen?, H]

/-- A shape's value. -/
def shV (B C W U : Int) : Value := .agg #[.int .u64 B, .int .i64 C, .int .i64 W, .int .i64 U]

set_option maxRecDepth 20000 in
theorem set_any (B C W U : Nat) (hC : C ≤ 65536) (hW : W ≤ 16) (w : World) :
    Calls Try.prog 26 #[.agg #[.int .u64 B, .int .i64 C, .int .i64 W, .int .i64 U]] w fun e w' => e = .returned (.int .u64 ((W * C : Nat) : Int)) ∧ Keep (fun _ => False) w w' := by
  have h : W * C ≤ 16 * 65536 := Nat.mul_le_mul hW hC
  have hM := hid (mul_small W C (by omega) (by omega) (by omega))
  clear h
  go_enter Try.func26, Try.ntmps26
  go_wp2_with (fail)
  refine (hM.out _).mono ?_
  rintro e w1 ⟨rfl, rfl⟩
  go_wp2_with (fail)
  go_ret
  exact ⟨by rfl, (Keep.refl _ _).alloc _⟩

/-- A shape that may be. -/
structure ShOk (B C W U : Nat) : Prop where
  u0 : 1 ≤ U
  u1 : U ≤ 256
  c0 : 1 ≤ C
  c1 : C ≤ 65536
  cu : C % U = 0
  w0 : 1 ≤ W
  w1 : W ≤ 16
  b0 : 1 ≤ B
  b1 : B ≤ 1099511627776
  bs : B % (W * C) = 0
  bc : B / C ≤ 256

set_option maxRecDepth 20000 in
theorem where_any (B C W U x : Nat) (h : ShOk B C W U) (hx : x < B) (w : World) :
    Calls Try.prog 25 #[.agg #[.int .u64 B, .int .i64 C, .int .i64 W, .int .i64 U], .int .u64 x] w fun e w' =>
      e = .returned (.tuple #[.int .i64 ((SM.wh C W U x).1 : Nat), .int .i64 ((SM.wh C W U x).2 : Nat)]) ∧ Keep (fun _ => False) w w' := by
  have u0 := h.u0
  have u1 := h.u1
  have c0 := h.c0
  have c1 := h.c1
  have w0 := h.w0
  have w1' := h.w1
  have b1 := h.b1
  go_enter Try.func25, Try.ntmps25
  go_wp2_with (first | (at_builtin; refine stopAt ?_; intro q hq) | (refine stopOp (.load 25 _) rfl ?_; intro q hq))
  (refine hq.out ?_; clear hq q)
  have hg := heap_alloc_new w (.cells #[.int .u64 B, .int .i64 C, .int .i64 W, .int .i64 U] 25)
  have hk : Keep (fun _ => False) w (w.alloc (.cells #[.int .u64 B, .int .i64 C, .int .i64 W, .int .i64 U] 25)) := (Keep.refl _ _).alloc _
  obtain ⟨w1, hw1⟩ : ∃ w1, w1 = w.alloc (.cells #[.int .u64 B, .int .i64 C, .int .i64 W, .int .i64 U] 25) := ⟨_, rfl⟩
  rw [← hw1] at hg hk ⊢
  clear hw1
  refine wpList_plain rfl (fun K hK => ?_)
  refine wp_load_at 25 (.tmp 2) rfl w.heap.size 0 rfl [.int .u64 B, .int .i64 C, .int .i64 W, .int .i64 U] (fun j u hu => by rw [Nat.zero_add, cell_of_row _ _ _ _ _ _ hg]; simpa using hu) _ Try.underlying25 rfl (by kernel_rfl) ?_
  refine hK _ _ ?_
  clear hK K
  have Hg := hid hg
  have Hk := hid hk
  clear hg hk
  go_wp2_with (at_builtin; refine stopAt ?_; intro q hq)
  have hset := set_any B C W U c1 w1' w1
  obtain ⟨S, hS⟩ : ∃ S, S = W * C := ⟨_, rfl⟩
  rw [← hS] at hset
  have hS0 : 0 < S := by rw [hS]; exact Nat.mul_pos w0 c0
  have hS1 : S ≤ 1048576 := by have h := Nat.mul_le_mul w1' c1; rw [← hS] at h; omega
  refine hset.mono ?_
  rintro e w2 ⟨rfl, hk2⟩
  have HS := hid hS
  clear hset hS
  go_wp2_with (at_builtin; refine stopAt ?_; intro q hq)
  have hdiv := div_zero x S (by omega) hS0 (by omega) w2
  refine hdiv.mono ?_
  rintro e w3 ⟨rfl, hk3⟩
  have hq := Nat.div_le_self x S
  have ho := Nat.mod_lt x hS0
  obtain ⟨q, hqe⟩ : ∃ q, q = x / S := ⟨_, rfl⟩
  obtain ⟨o, hoe⟩ : ∃ o, o = x % S := ⟨_, rfl⟩
  rw [← hqe] at hq ⊢
  rw [← hoe] at ho ⊢
  have hk23 : Keep (fun _ => False) w1 w3 := hk2.next hk3 (fun _ _ x => x) (fun _ _ x => x)
  obtain ⟨i0, i1, i2, i3, if1, ib1⟩ := cells4 (hk23.get Hg.out id)
  have Hk3 := hid (Hk.out.next hk23 (fun _ _ x => x) (fun _ _ x => x))
  have HE := hid (And.intro hqe hoe)
  clear hqe hoe hk2 hk3 hk23
  have hU : (U : Int) ≠ 0 := by omega
  have hW : (W : Int) ≠ 0 := by omega
  have b1 : o / U ≤ o := Nat.div_le_self o U
  have b2 : o % U < U := Nat.mod_lt _ (by omega)
  have b3 : o / U % W < W := Nat.mod_lt _ (by omega)
  have b4 : o / U / W * U ≤ o := Nat.le_trans (Nat.mul_le_mul_right _ (Nat.div_le_self _ _)) (Nat.div_mul_le_self o U)
  have b5 : q * W ≤ x * 16 := Nat.mul_le_mul hq w1'
  obtain ⟨u, hu⟩ : ∃ u, u = o / U := ⟨_, rfl⟩
  obtain ⟨r, hr⟩ : ∃ r, r = o % U := ⟨_, rfl⟩
  rw [← hu] at b1 b3 b4
  rw [← hr] at b2
  obtain ⟨u1, hu1⟩ : ∃ u1, u1 = u % W := ⟨_, rfl⟩
  have b6 : u / W ≤ u := Nat.div_le_self u W
  obtain ⟨u2, hu2⟩ : ∃ u2, u2 = u / W := ⟨_, rfl⟩
  rw [← hu1] at b3
  rw [← hu2] at b4 b6
  obtain ⟨v, hv⟩ : ∃ v, v = u2 * U := ⟨_, rfl⟩
  obtain ⟨z, hz⟩ : ∃ z, z = q * W := ⟨_, rfl⟩
  rw [← hv] at b4
  rw [← hz] at b5
  have r1 : (o : Int) / (U : Int) = (u : Int) := by rw [hu]; exact (Int.natCast_ediv _ _).symm
  have r2 : (o : Int) % (U : Int) = (r : Int) := by rw [hr]; exact (Int.natCast_emod _ _).symm
  have r3 : (u : Int) % (W : Int) = (u1 : Int) := by rw [hu1]; exact (Int.natCast_emod _ _).symm
  have r4 : (u : Int) / (W : Int) = (u2 : Int) := by rw [hu2]; exact (Int.natCast_ediv _ _).symm
  have r5 : (u2 : Int) * (U : Int) = (v : Int) := by rw [hv]; exact (Int.natCast_mul _ _).symm
  have r6 : (q : Int) * (W : Int) = (z : Int) := by rw [hz]; exact (Int.natCast_mul _ _).symm
  have HF := hid (And.intro hu (And.intro hr (And.intro hu1 (And.intro hu2 (And.intro hv hz)))))
  clear hu hr hu1 hu2 hv hz
  have hb1 : u ≤ 1048576 := by omega
  have hb2 : v ≤ 1048576 := by omega
  go_wp2_with (at_builtin; refine stopAt ?_; intro q hq)
  go_quiet (fail)
  go_wp2_with (at_builtin; refine stopAt ?_; intro q hq)
  go_quiet (fail)
  go_wp2_with (at_builtin; refine stopAt ?_; intro q hq)
  clear r1 r2 r3 r4 r5 r6
  go_ret2
  obtain ⟨rfl, rfl, rfl, rfl, rfl, rfl⟩ := HF.out
  obtain ⟨rfl, rfl⟩ := HE.out
  refine ⟨?_, (Hk3.out.drewN _).drewN _⟩
  unfold SM.wh
  rw [← HS.out]
  rfl

set_option maxRecDepth 20000 in
theorem check_ok (B C W U : Nat) (h : ShOk B C W U) (w : World) :
    Calls Try.prog 16 #[.agg #[.int .u64 B, .int .i64 C, .int .i64 W, .int .i64 U]] w fun e w' => e = .returned (.int .i64 0) ∧ Keep (fun _ => False) w w' := by
  obtain ⟨u0, u1, c0, c1, cu, w0, w1', b0, b1, bs, bc⟩ := h
  have d1 : decide ((U : Int) < 1) = false := by simp; omega
  have d2 : decide ((256 : Int) < U) = false := by simp; omega
  have d3 : decide ((C : Int) < 1) = false := by simp; omega
  have d4 : decide ((65536 : Int) < C) = false := by simp; omega
  have d5 : (C : Int) % (U : Int) = 0 := by rw [← Int.natCast_emod, cu]; rfl
  have d6 : decide ((W : Int) < 1) = false := by simp; omega
  have d7 : decide ((16 : Int) < W) = false := by simp; omega
  have hU : (U : Int) ≠ 0 := by omega
  have e1 : decide ((B : Int) < 1) = false := by simp; omega
  have e2 : decide ((1099511627776 : Int) < B) = false := by simp; omega
  go_enter Try.func16, Try.ntmps16
  go_wp2_with (at_builtin; refine stopAt ?_; intro q hq)
  have hg := heap_alloc_new w (.cells #[.int .u64 B, .int .i64 C, .int .i64 W, .int .i64 U] 25)
  have hk : Keep (fun _ => False) w (w.alloc (.cells #[.int .u64 B, .int .i64 C, .int .i64 W, .int .i64 U] 25)) := (Keep.refl _ _).alloc _
  obtain ⟨w1, hw1⟩ : ∃ w1, w1 = w.alloc (.cells #[.int .u64 B, .int .i64 C, .int .i64 W, .int .i64 U] 25) := ⟨_, rfl⟩
  rw [← hw1] at hg hk ⊢
  clear hw1
  obtain ⟨i0, i1, i2, i3, if1, ib1⟩ := cells4 hg
  have hset := set_any B C W U c1 w1' w1.drew
  obtain ⟨S, hS⟩ : ∃ S, S = W * C := ⟨_, rfl⟩
  rw [← hS] at hset bs
  have hS0 : 0 < S := by rw [hS]; exact Nat.mul_pos w0 c0
  have HS := hid hS
  clear hS
  have hSz : ¬ S = 0 := by omega
  have hCz : ¬ (C : Int) = 0 := by omega
  have k1 : (B : Int).tmod (S : Int) = 0 := by rw [Int.tmod_eq_emod_of_nonneg (by omega), ← Int.natCast_emod, bs]; rfl
  obtain ⟨bq, hbq⟩ : ∃ q, q = B / C := ⟨_, rfl⟩
  rw [← hbq] at bc
  have k4 : IntKind.u64.wrap (C : Int) = (C : Int) := by rw [IntKind.wrap_u64]; omega
  have k2 : IntKind.u64.wrap ((B : Int) / (C : Int)) = (bq : Int) := by rw [← Int.natCast_ediv, ← hbq, IntKind.wrap_u64]; omega
  have k3 : decide ((256 : Int) < (bq : Int)) = false := by simp; omega
  have K1 := hid (And.intro hSz (And.intro hCz (And.intro k1 (And.intro k4 k2))))
  clear hSz hCz k1 k2 k4 hbq
  refine wp_region_canon [51] (by kernel_rfl) (by kernel_rfl) ?_
  repeat (first | (apply wpC_pure (by rfl); (intro K w'; go_simp; exact id)) | (apply wpC_load (by rfl); (intro K; go_simp; exact id)))
  refine wpC_newW (by rfl) (by kernel_rfl) (fun K hK => ?_)
  go_simp
  refine hset.mono ?_
  rintro e w2 ⟨rfl, hk2⟩
  refine hK _ _ (Pre.of_keep hk2) ?_
  clear hK K hset
  have hk12 : Keep (fun _ => False) w1 w2 := (Keep.refl _ _).drew.next hk2 (fun _ _ x => x) (fun _ _ x => x)
  clear i0 i1 i2 i3 if1 ib1
  obtain ⟨i0, i1, i2, i3, if1, ib1⟩ := cells4 (hk12.get hg id)
  have Hk2 := hid (hk.next hk12 (fun _ _ x => x) (fun _ _ x => x))
  clear hk12 hk2 hk hg
  apply wpC_pure (by rfl)
  · intro K w'; go_simp; rw [if_neg K1.out.1, K1.out.2.2.1]; exact fun x => ⟨rfl, x⟩
  repeat (first | (apply wpC_pure (by rfl); (intro K w'; go_simp; exact id)) | (apply wpC_load (by rfl); (intro K; go_simp; exact id)))
  apply wpC_pure (by rfl)
  · intro K w'; go_simp; rw [K1.out.2.2.2.1, if_neg K1.out.2.1, K1.out.2.2.2.2]; exact fun x => ⟨rfl, x⟩
  repeat (first | (apply wpC_pure (by rfl); (intro K w'; go_simp; exact id)) | (apply wpC_load (by rfl); (intro K; go_simp; exact id)))
  refine wpC_nil ?_
  go_wp2_with (at_builtin; refine stopAt ?_; intro q hq)
  go_ret
  exact ⟨by rfl, Hk2.out⟩
end Go.Proofs.Ytmbfglblkpipcaa
