/- span's laws: the shape that they make of any numbers. Conditions: as the contract names them. -/
import Derived.Test.YtmbfglblkpipcaaSpanK
namespace Go.Proofs.Ytmbfglblkpipcaa
open Go.RowKit
open SM

/-- int(uint(a) % m). -/
theorem umod_int (a m : Int) (h0 : 0 < m) (h1 : m ≤ 9223372036854775807) : IntKind.i64.wrap ((IntKind.u64.wrap a).tmod m) = a % 18446744073709551616 % m := by
  have h2 : IntKind.u64.wrap a = a % 18446744073709551616 := by simp [IntKind.wrap, IntKind.signed, IntKind.bits]
  have h3 : 0 ≤ a % 18446744073709551616 := by omega
  rw [h2, Int.tmod_eq_emod_of_nonneg h3]
  have h4 := Int.emod_nonneg (a % 18446744073709551616) (show m ≠ 0 by omega)
  have h5 := Int.emod_lt_of_pos (a % 18446744073709551616) h0
  generalize a % 18446744073709551616 % m = x at h4 h5
  simp [IntKind.wrap, IntKind.signed, IntKind.bits]
  omega

/-- A result that lies in a block. -/
theorem results_agg {P : Program} {fn : Func} {t : Tmp} {ty : TypeId} (h : fn.results = #[.cell t ty]) (tmps : Array Value) (w : World) (g : Nat) (ht : tmps.getD t undef = .pointer (some ⟨g, 0, none⟩)) (cs : List Value)
    (hc : ∀ j u, cs[j]? = some u → w.cell? ⟨g, j, none⟩ = some u) (d : TypeDesc)
    (hu : P.underlying ty = some d) (hd : (match d with | .struct _ | .array _ _ => true | _ => false) = true) (hi : (P.info? ty).map (·.size) = some cs.length) :
    (results fn tmps).run P w = .ok (.agg cs.toArray) w := by
  have hl := run_loadCells_list (P := P) w ⟨g, 0, none⟩ cs (fun j v hv => by rw [addr_add, Nat.zero_add]; exact hc j v hv)
  cases hq : P.info? ty with
  | none => simp [hq] at hi
  | some i =>
    have hs : i.size = cs.length := by simpa [hq] using hi
    have hagg : (isAgg ty).run P w = .ok true w := by
      unfold isAgg
      rw [Sem.run_bind, run_underlying hu w]
      cases d <;> simp_all
    have hr : (loadVar ty ⟨g, 0, none⟩).run P w = .ok (.agg cs.toArray) w := by
      simp [loadVar, Sem.run_bind, hagg, sizeOf, typeInfo, hq, hs, hl]
    have ht' : tmps[t]?.getD undef = .pointer (some ⟨g, 0, none⟩) := by simpa using ht
    simp [results, h, ht', asAddr, hr]

/-- The shape of the laws: its numbers. -/
structure ShLaw (U m W n : Nat) : Prop where
  u0 : 1 ≤ U
  u1 : U ≤ 8
  m0 : 1 ≤ m
  m1 : m ≤ 20
  w0 : 1 ≤ W
  w1 : W ≤ 6
  n0 : 1 ≤ n
  n1 : n ≤ 5

theorem ShLaw.ok {U m W n : Nat} (h : ShLaw U m W n) : ShOk (n * W * (U * m)) (U * m) W U := by
  obtain ⟨u0, u1, m0, m1, w0, w1, n0, n1⟩ := h
  have c0 : 1 ≤ U * m := Nat.mul_pos u0 m0
  have c1 : U * m ≤ 8 * 20 := Nat.mul_le_mul u1 m1
  have nw : n * W ≤ 5 * 6 := Nat.mul_le_mul n1 w1
  have b1 : n * W * (U * m) ≤ 5 * 6 * (8 * 20) := Nat.mul_le_mul nw c1
  refine ⟨u0, by omega, c0, by omega, Nat.mul_mod_right U m, w0, by omega, Nat.mul_pos (Nat.mul_pos n0 w0) c0, by omega, ?_, ?_⟩
  · rw [Nat.mul_assoc]; exact Nat.mul_mod_left _ _
  · rw [Nat.mul_div_cancel _ c0]; omega

set_option maxRecDepth 20000 in
theorem shape_any (w : World) (a b c d : Int) (_ha : -9223372036854775808 ≤ a ∧ a ≤ 9223372036854775807) (_hb : -9223372036854775808 ≤ b ∧ b ≤ 9223372036854775807) (_hc : -9223372036854775808 ≤ c ∧ c ≤ 9223372036854775807) (_hd : -9223372036854775808 ≤ d ∧ d ≤ 9223372036854775807) :
    Calls Try.prog 9 #[.int .i64 a, .int .i64 b, .int .i64 c, .int .i64 d] w fun e w' => ∃ U m W n, ShLaw U m W n ∧
      e = .returned (.agg #[.int .u64 ((n * W * (U * m) : Nat) : Int), .int .i64 ((U * m : Nat) : Int), .int .i64 (W : Int), .int .i64 (U : Int)]) ∧ Keep (fun _ => False) w w' := by
  obtain ⟨u, hu⟩ : ∃ u : Nat, (u : Int) = a % 18446744073709551616 % 8 := ⟨(a % 18446744073709551616 % 8).toNat, by omega⟩
  obtain ⟨m, hm⟩ : ∃ u : Nat, (u : Int) = b % 18446744073709551616 % 20 := ⟨(b % 18446744073709551616 % 20).toNat, by omega⟩
  obtain ⟨W, hW⟩ : ∃ u : Nat, (u : Int) = c % 18446744073709551616 % 6 := ⟨(c % 18446744073709551616 % 6).toNat, by omega⟩
  obtain ⟨n, hn⟩ : ∃ u : Nat, (u : Int) = d % 18446744073709551616 % 5 := ⟨(d % 18446744073709551616 % 5).toNat, by omega⟩
  have e1 := umod_int a 8 (by decide) (by decide)
  have e2 := umod_int b 20 (by decide) (by decide)
  have e3 := umod_int c 6 (by decide) (by decide)
  have e4 := umod_int d 5 (by decide) (by decide)
  have l1 : u ≤ 7 := by omega
  have l2 : m ≤ 19 := by omega
  have l3 : W ≤ 5 := by omega
  have l4 : n ≤ 4 := by omega
  rw [← hu] at e1
  rw [← hm] at e2
  rw [← hW] at e3
  rw [← hn] at e4
  clear hu hm hW hn
  obtain ⟨U, hU⟩ : ∃ z, z = 1 + u := ⟨_, rfl⟩
  obtain ⟨M, hM⟩ : ∃ z, z = 1 + m := ⟨_, rfl⟩
  obtain ⟨V, hV⟩ : ∃ z, z = 1 + W := ⟨_, rfl⟩
  obtain ⟨N, hN⟩ : ∃ z, z = 1 + n := ⟨_, rfl⟩
  have L : ShLaw U M V N := ⟨by omega, by omega, by omega, by omega, by omega, by omega, by omega, by omega⟩
  have r1 : (1 : Int) + (u : Int) = (U : Int) := by omega
  have r2 : (1 : Int) + (m : Int) = (M : Int) := by omega
  have r3 : (1 : Int) + (W : Int) = (V : Int) := by omega
  have r4 : (1 : Int) + (n : Int) = (N : Int) := by omega
  clear hU hM hV hN l1 l2 l3 l4
  have p1 : U * M ≤ 8 * 20 := Nat.mul_le_mul L.u1 L.m1
  have p2 : N * V ≤ 5 * 6 := Nat.mul_le_mul L.n1 L.w1
  have p3 : N * V * (U * M) ≤ 5 * 6 * (8 * 20) := Nat.mul_le_mul p2 p1
  have b1 := L.u1
  have b2 := L.w1
  have b3 := L.m1
  have b4 := L.n1
  obtain ⟨C, hC⟩ : ∃ z, z = U * M := ⟨_, rfl⟩
  obtain ⟨S, hS⟩ : ∃ z, z = N * V := ⟨_, rfl⟩
  rw [← hC] at p1 p3
  rw [← hS] at p2 p3
  obtain ⟨B, hB⟩ : ∃ z, z = S * C := ⟨_, rfl⟩
  rw [← hB] at p3
  have r5 : (U : Int) * (M : Int) = (C : Int) := by rw [hC]; exact (Int.natCast_mul _ _).symm
  have r6 : (N : Int) * (V : Int) = (S : Int) := by rw [hS]; exact (Int.natCast_mul _ _).symm
  have r7 : (S : Int) * (C : Int) = (B : Int) := by rw [hB]; exact (Int.natCast_mul _ _).symm
  have HE := hid (And.intro hB (And.intro hS hC))
  clear hC hS hB
  go_enter Try.func9, Try.ntmps9
  go_wp2_with (at_builtin; refine stopAt ?_; intro q hq)
  (try simp only [Exit.inBlock, Exit.then])
  refine bodyPost_ret (results_agg rfl _ _ w.heap.size rfl [.int .u64 B, .int .i64 C, .int .i64 V, .int .i64 U] ?_ _ Try.underlying25 rfl (by kernel_rfl)) rfl ?_
  · intro j u hu
    rw [cell_of_row _ _ _ _ _ _ (heap_alloc_new w _)]
    simpa using hu
  · obtain ⟨rfl, rfl, rfl⟩ := HE.out
    exact ⟨U, M, V, N, L, rfl, (Keep.refl _ _).alloc _⟩
end Go.Proofs.Ytmbfglblkpipcaa
