/- SpanFewest: the walk. Conditions: none but that the arguments are ints and a word. -/
import Derived.Test.YtmbfglblkpipcaaSpanD
namespace Go.Proofs.Ytmbfglblkpipcaa
open Go.RowKit
open SM

/-- The set of small numbers, as the bits of a word. -/
def bitsOf (l : List Int) : Nat := l.foldl (fun s c => s ||| 2 ^ c.toNat) 0
theorem bitsOf_snoc (l : List Int) (c : Int) : bitsOf (l ++ [c]) = bitsOf l ||| 2 ^ c.toNat := by simp [bitsOf]
theorem bitsOf_from (l : List Int) : ∀ (s i : Nat), (l.foldl (fun s c => s ||| 2 ^ c.toNat) s).testBit i = (s.testBit i || l.any fun c => decide (c.toNat = i)) := by
  induction l with
  | nil => intro s i; simp
  | cons c l ih =>
    intro s i
    rw [List.foldl_cons, ih, Nat.testBit_or, Nat.testBit_two_pow, List.any_cons, Bool.or_assoc]
theorem bitsOf_congr {a b : List Int} (h : ∀ x, x ∈ a ↔ x ∈ b) : bitsOf a = bitsOf b := by
  refine Nat.eq_of_testBit_eq fun i => ?_
  unfold bitsOf
  rw [bitsOf_from, bitsOf_from]
  congr 1
  rw [Bool.eq_iff_iff, List.any_eq_true, List.any_eq_true]
  constructor
  · rintro ⟨x, hx, hi⟩
    exact ⟨x, (h x).1 hx, hi⟩
  · rintro ⟨x, hx, hi⟩
    exact ⟨x, (h x).2 hx, hi⟩
theorem bitsOf_lt (l : List Int) (h : ∀ c ∈ l, c < 64) : bitsOf l < 18446744073709551616 := by
  have : ∀ s, s < 2 ^ 64 → l.foldl (fun s c => s ||| 2 ^ c.toNat) s < 2 ^ 64 := by
    induction l with
    | nil => exact fun s hs => hs
    | cons c l ih =>
      intro s hs
      rw [List.foldl_cons]
      refine ih (fun c hc => h c (List.mem_cons_of_mem _ hc)) _ (Nat.or_lt_two_pow hs (Nat.pow_lt_pow_right (by omega) ?_))
      have := h c (by simp)
      omega
  exact this 0 (by decide)

theorem or_bit (s c : Nat) (hs : s < 18446744073709551616) (hc : c < 64) : bits .or .u64 (s : Int) (IntKind.u64.wrap ((2 : Int) ^ c)) = ((s ||| 2 ^ c : Nat) : Int) := by
  have h2 : 2 ^ c < 18446744073709551616 := Nat.lt_of_lt_of_le (Nat.pow_lt_pow_right (by omega) hc) (by decide)
  have h3 : (2 : Int) ^ c = ((2 ^ c : Nat) : Int) := by simp
  rw [← bits_or_u64_nat s (2 ^ c) hs h2, h3, wrapU _ h2]

/-- A number of a row, as the code loads it. -/
theorem num_at {wr : World} {v : Value} {n : Nat} {l : List Int} (h : Row wr 3 1 v n (numsV l)) (i : Nat) (hi : i < l.length) :
    ∃ g cap, v = .slice (some ⟨g, 0, none⟩) n cap ∧ wr.cell? ⟨g, i, none⟩ = some (.int .i64 l[i]) :=
  h.getCell (by simp [numsV, hi])

set_option maxRecDepth 20000 in
set_option maxHeartbeats 4000000 in
theorem fewest_walk (w : World) (a b c d : Int) (ha : -9223372036854775808 ≤ a ∧ a ≤ 9223372036854775807) (hb : -9223372036854775808 ≤ b ∧ b ≤ 9223372036854775807) (hc : -9223372036854775808 ≤ c ∧ c ≤ 9223372036854775807) (hd : -9223372036854775808 ≤ d ∧ d ≤ 9223372036854775807)
    (xi : Int) (hx0 : 0 ≤ xi) (hx1 : xi ≤ 18446744073709551615) (ki : Int) (_hk0 : -9223372036854775808 ≤ ki) (_hk1 : ki ≤ 9223372036854775807) :
    Calls Try.prog 8 #[.agg #[.int .i64 a, .int .i64 b, .int .i64 c, .int .i64 d], .int .u64 xi, .int .i64 ki] w fun e w' => e = .returned (.bool true) ∧ Keep (fun _ => False) w w' := by
  obtain ⟨x, rfl⟩ : ∃ n : Nat, (n : Int) = xi := ⟨xi.toNat, by omega⟩
  go_enter Try.func8, Try.ntmps8
  go_wp2_with (at_builtin; refine stopAt ?_; intro q hq)
  have hkA : Keep (fun _ => False) w (w.alloc (.cells #[.int .i64 a, .int .i64 b, .int .i64 c, .int .i64 d] 22)) := (Keep.refl _ _).alloc _
  obtain ⟨w0, hw0⟩ : ∃ w0, w0 = w.alloc (.cells #[.int .i64 a, .int .i64 b, .int .i64 c, .int .i64 d] 22) := ⟨_, rfl⟩
  rw [← hw0] at hkA ⊢
  clear hw0
  refine (shape_any w0 a b c d ha hb hc hd).mono ?_
  rintro e w1 ⟨U, m, W, n, L, rfl, hk1'⟩
  have SH := L.shaped
  have hn5 := L.n1
  obtain ⟨C, hC⟩ : ∃ z, z = U * m := ⟨_, rfl⟩
  rw [← hC] at SH ⊢
  obtain ⟨B, hB⟩ : ∃ z, z = n * W * C := ⟨_, rfl⟩
  rw [← hB] at SH ⊢
  clear hC hB L
  have k01 := hid (hkA.next hk1' (fun _ _ x => x) (fun _ _ x => x))
  have hB0 : 0 < B := SH.ok.b0
  have hBz : (B : Int) ≠ 0 := by omega
  have hx2 : x % B < B := Nat.mod_lt _ hB0
  obtain ⟨x', hx'⟩ : ∃ z, z = x % B := ⟨_, rfl⟩
  have r1 : (x : Int) % (B : Int) = (x' : Int) := by rw [hx']; exact (Int.natCast_emod _ _).symm
  rw [← hx'] at hx2
  have hb1 := SH.b1
  obtain ⟨R, hR⟩ : ∃ z, z = B - x' + 1 := ⟨_, rfl⟩
  have hR0 : 0 < R := by omega
  have r2 : (B : Int) - (x' : Int) + 1 = (R : Int) := by omega
  obtain ⟨k, hk⟩ : ∃ k : Nat, (k : Int) = ki % 18446744073709551616 % (R : Int) := ⟨(ki % 18446744073709551616 % (R : Int)).toNat, by have := Int.emod_nonneg (ki % 18446744073709551616) (show (R : Int) ≠ 0 by omega); omega⟩
  have hkR : k < R := by have := Int.emod_lt_of_pos (ki % 18446744073709551616) (show (0 : Int) < R by omega); omega
  have r3 := umod_int ki R (by omega) (by omega)
  rw [← hk] at r3
  have hRz : (R : Int) ≠ 0 := by omega
  have hRn : R ≤ 4801 := by omega
  have hkB : x' + k ≤ B := by omega
  have hRB : B < x' + R := by omega
  clear hx' hkA hk1' hk hR
  go_wp2_with (at_builtin; refine stopAt ?_; intro q hq)
  (obtain ⟨w2, hbox⟩ : ∃ wbx, wbx = w1.alloc (.cells #[.int .u64 B, .int .i64 C, .int .i64 W, .int .i64 U] 25) := ⟨_, rfl⟩; have X2 := Boxed.new w1 B C W U; rw [← hbox] at X2 ⊢; clear hbox)
  have hck : ∀ y, y < B → (wh C W U y).1 < 64 := fun y hy => by
    have h1 := SH.chunk_lt hy
    have h2 := SH.q
    have h3 : n * W ≤ 5 * 6 := Nat.mul_le_mul hn5 SH.w1
    omega
  have Hck := hid hck
  clear hck
  have H12 := hid (heap_lt X2.at_)
  refine (split_ok B C W U x' k SH.ok (by omega) (by omega) w2).mono ?_
  rintro e w3 ⟨v, l, rfl, hr3, hcov, hfew, hk3, hown⟩
  have X3 := X2.step hk3
  obtain ⟨i0, i1, i2, i3, if1, ib1⟩ := cells4 X3.at_
  obtain ⟨ao, cap, rfl, hcap, hmax, -⟩ := hr3.form
  have HR := hid hr3
  have HC := hid (And.intro hcov hfew)
  have Hown := hid hown
  have hlk : l.length ≤ k := Cov.few hcov
  have hc64 : ∀ p ∈ l, p.c < 64 := fun p hp => by
    have h1 := (hcov.lies p hp).lie 0 (hcov.lies p hp).pos
    obtain ⟨i, hi, rfl⟩ := List.mem_iff_getElem.1 hp
    have h2 := hcov.from_ i hi
    have h3 := sumN_take_succ l i hi
    have h4 := sumN_take_le l (i + 1)
    have h5 := (hcov.lies l[i] hp).pos
    rw [hcov.all] at h4
    have := Hck.out (x' + l[i].f + 0) (by omega)
    rw [h1] at this
    exact this
  have HL64 := hid hc64
  obtain ⟨len, hlen⟩ : ∃ n, n = l.length := ⟨_, rfl⟩
  rw [← hlen] at hlk hcap ⊢
  have HL := hid hlen
  have HX3 := hid X3
  clear X2 hk3 hr3 hcov hfew hown hlen r3 X3 hmax hcap hc64
  go_wp2_with (at_builtin; refine stopAt ?_; intro q hq)
  clear i0 i1 i2 i3 if1 ib1
  refine (touch_ok B C W U x' k SH.ok (by omega) (by omega) w3).mono ?_
  rintro e w4 ⟨v4, l4, rfl, hr4, hcov4, hfew4, hk4, -⟩
  obtain rfl : l4 = l := cov_unique hcov4 hfew4 HC.out.1 HC.out.2
  obtain ⟨to, tcap, rfl, -⟩ := hr4.form
  obtain ⟨tn, htn⟩ : ∃ n, n = (tch l4).length := ⟨_, rfl⟩
  rw [← htn] at hr4 ⊢
  have HTN := hid htn
  have HT := hid hr4
  have HR4 := hid (HR.out.keep hk4 (fun _ _ x => x))
  have HX4 := hid (HX3.out.step hk4)
  have ht63 : (tn : Int) ≤ 9223372036854775807 := by obtain ⟨_, _, _, y1, y2, _⟩ := hr4.form; unfold maxLen at y2; omega
  clear hr4 hcov4 hfew4 hk4 htn HR HX3
  go_wp2_with (at_builtin; refine stopAt ?_; intro q hq)
  go_loopw [14, 15] (fun sv iv wr => ∃ i : Nat, i ≤ len ∧ sv = .int .u64 ((bitsOf (chs (l4.take i)) : Nat) : Int) ∧ iv = .int .i64 i ∧ Hid (Keep (fun _ => False) w4 wr)) (fun _ iv _ => len - (intOf iv).toNat)
  case atStart => exact ⟨0, Nat.zero_le _, rfl, rfl, hid (Keep.refl _ _)⟩
  case round =>
    obtain ⟨i, hi, rfl, rfl, HK⟩ := hrel
    by_cases hil : i < len
    · have h4 : (i : Int) < len := by omega
      have hil' : i < l4.length := by rw [← HL.out]; exact hil
      have hrow := HR4.out.keep HK.out (fun _ _ x => x)
      obtain ⟨g, cap', hv, p0, p1, p2, p3⟩ := pcs_at hrow i hil'
      rw [← HL.out] at hv
      cases hv
      have hsucc : chs (l4.take (i + 1)) = chs (l4.take i) ++ [(l4[i].c : Int)] := by
        unfold chs
        rw [List.take_add_one, List.getElem?_eq_getElem hil', Option.toList_some, List.map_append]
        rfl
      have hbs := bitsOf_snoc (chs (l4.take i)) (l4[i].c : Int)
      rw [← hsucc, Int.toNat_natCast] at hbs
      have hlt := bitsOf_lt (chs (l4.take i)) (fun z hz => by
        obtain ⟨p, hp, rfl⟩ := List.mem_map.1 hz
        have := HL64.out p (List.mem_of_mem_take hp)
        omega)
      have h64 := HL64.out l4[i] (List.getElem_mem _)
      have hnb : ∀ j (hj : j + 1 = i), ∃ q : Pc, wr.cell? ⟨g, j * 4, none⟩ = some (.int .i64 (q.c : Int)) ∧ wr.cell? ⟨g, j * 4 + 1, none⟩ = some (.int .i64 (q.a : Int)) ∧ wr.cell? ⟨g, j * 4 + 3, none⟩ = some (.int .i64 (q.n : Int)) ∧ ¬ (q.c = l4[i].c ∧ q.a + q.n = l4[i].a) ∧ q.a + q.n ≤ 4800 + 4800 := fun j hj => by
        subst hj
        have hjl : j < l4.length := by omega
        obtain ⟨g', cap', hv', q0, q1, q2, q3⟩ := pcs_at hrow j hjl
        rw [← HL.out] at hv'
        cases hv'
        refine ⟨l4[j], q0, q1, q3, HC.out.2 j hil', ?_⟩
        have h1 := HC.out.1.lies l4[j] (List.getElem_mem _)
        have h2 := h1.lie 0 h1.pos
        have h3 := SH.at_lt (x' + l4[j].f + 0)
        rw [h2] at h3
        have h4 := sumN_take_succ l4 j hjl
        have h5 := sumN_take_le l4 (j + 1)
        rw [HC.out.1.all] at h5
        have h6 := SH.c1
        have h7 := SH.b1
        simp only at h3
        omega
      obtain ⟨p, hp⟩ : ∃ p, p = l4[i] := ⟨_, rfl⟩
      rw [← hp] at p0 p1 p2 p3 hsucc hbs h64 hnb
      obtain ⟨pc, pa, pf, pn⟩ := p
      simp only at p0 p1 p2 p3 hsucc hbs h64 hnb
      obtain ⟨s, hs⟩ : ∃ s, s = bitsOf (chs (l4.take i)) := ⟨_, rfl⟩
      rw [← hs] at hbs hlt ⊢
      have Hbs := hid hbs
      have hor := or_bit s pc hlt h64
      have h64' : (pc : Int) < 64 := by omega
      have Hnb := hid hnb
      have Hor := hid hor
      clear hp hsucc hbs hrow hs hnb hor
      rcases Nat.eq_zero_or_pos i with h0 | h0
      · subst h0
        go_wp2_with (at_builtin; refine stopAt ?_; intro q hq)
        go_quiet (fail)
        go_wp2_with (at_builtin; refine stopAt ?_; intro q hq)
        refine ⟨⟨1, by omega, by rw [Hor.out]; exact congrArg (fun z : Nat => Value.int .u64 (z : Int)) Hbs.out.symm, rfl, hid (HK.out.drewN _)⟩, by simp [intOf]; omega⟩
      · obtain ⟨j, rfl⟩ : ∃ j, i = j + 1 := ⟨i - 1, by omega⟩
        obtain ⟨q, q0, q1, q3, hne, hqb⟩ := Hnb.out j rfl
        obtain ⟨qc, qa, qf, qn⟩ := q
        simp only at q0 q1 q3 hne hqb
        have hj1 : (j : Int) < len := by omega
        by_cases hA : qc = pc
        · have t1 : ((pc : Int) == (qc : Int)) = true := by rw [hA]; simp
          have t2 : ((pa : Int) == (qa : Int) + (qn : Int)) = false := by simp; omega
          go_wp2_with (at_builtin; refine stopAt ?_; intro q hq)
          go_quiet (fail)
          go_wp2_with (at_builtin; refine stopAt ?_; intro q hq)
          refine ⟨⟨j + 1 + 1, by omega, by rw [Hor.out]; exact congrArg (fun z : Nat => Value.int .u64 (z : Int)) Hbs.out.symm, by go_num, hid (HK.out.drewN _)⟩, by simp [intOf]; omega⟩
        · have t1 : ((pc : Int) == (qc : Int)) = false := by simp; omega
          go_wp2_with (at_builtin; refine stopAt ?_; intro q hq)
          go_quiet (fail)
          go_wp2_with (at_builtin; refine stopAt ?_; intro q hq)
          refine ⟨⟨j + 1 + 1, by omega, by rw [Hor.out]; exact congrArg (fun z : Nat => Value.int .u64 (z : Int)) Hbs.out.symm, by go_num, hid (HK.out.drewN _)⟩, by simp [intOf]; omega⟩
    · have h4 : decide ((i : Int) < len) = false := by simp; omega
      have he : i = len := by omega
      have e : chs (l4.take i) = chs l4 := by rw [he, HL.out, List.take_length]
      rw [e]
      obtain ⟨S, hS⟩ : ∃ S, S = bitsOf (chs l4) := ⟨_, rfl⟩
      have hS2 : S = bitsOf (tch l4) := by
        rw [hS]
        refine bitsOf_congr fun x => ?_
        rw [tch_mem]
        simp [chs]
      rw [← hS]
      have HS := hid hS2
      have ht64 : ∀ (i : Nat) (hi : i < (tch l4).length), ∃ z : Nat, (z : Int) = (tch l4)[i] ∧ z < 64 := fun i hi => by
        obtain ⟨p, hp, he⟩ := (tch_mem l4 _).1 (List.getElem_mem hi)
        exact ⟨p.c, he, HL64.out p hp⟩
      have HT64 := hid ht64
      clear e he hS hS2 ht64
      obtain ⟨w5, hw5⟩ : ∃ w5, w5 = wr := ⟨_, rfl⟩
      rw [← hw5] at HK ⊢
      have HK5 := hid HK.out
      clear hw5 HK
      go_wp2_with (at_builtin; refine stopAt ?_; intro q hq)
      clear HL64 Hck
      go_loopw [16, 17] (fun sv iv wr => ∃ i : Nat, i ≤ tn ∧ sv = .int .u64 ((bitsOf ((tch l4).take i) : Nat) : Int) ∧ iv = .int .i64 i ∧ Hid (Keep (fun _ => False) w4 wr)) (fun _ iv _ => tn - (intOf iv).toNat)
      case atStart => exact ⟨0, Nat.zero_le _, rfl, rfl, HK5⟩
      case round =>
        clear HK5
        obtain ⟨i2, hi2, rfl, rfl, HK⟩ := hrel
        by_cases hil2 : i2 < tn
        · have h5 : (i2 : Int) < tn := by omega
          have hil' : i2 < (tch l4).length := by rw [← HTN.out]; exact hil2
          have hrow := HT.out.keep HK.out (fun _ _ x => x)
          obtain ⟨g, cap', hv, p0⟩ := num_at hrow i2 hil'
          cases hv
          obtain ⟨z, hz, hz64⟩ := HT64.out i2 hil'
          rw [← hz] at p0
          have hsucc : (tch l4).take (i2 + 1) = (tch l4).take i2 ++ [(z : Int)] := by
            rw [List.take_add_one, List.getElem?_eq_getElem hil', Option.toList_some, hz]
          have hbs := bitsOf_snoc ((tch l4).take i2) (z : Int)
          rw [← hsucc, Int.toNat_natCast] at hbs
          have hlt := bitsOf_lt ((tch l4).take i2) (fun y hy => by
            obtain ⟨j, hj, rfl⟩ := List.mem_iff_getElem.1 (List.mem_of_mem_take hy)
            obtain ⟨z', hz', h⟩ := HT64.out j hj
            omega)
          have hnb : ∀ j (hj : j + 1 = i2), ∃ y : Nat, wr.cell? ⟨g, j, none⟩ = some (.int .i64 (y : Int)) ∧ y < z := fun j hj => by
            subst hj
            have hjl : j < (tch l4).length := by omega
            obtain ⟨g', cap', hv', q0⟩ := num_at hrow j hjl
            cases hv'
            obtain ⟨y, hy, hy64⟩ := HT64.out j hjl
            rw [← hy] at q0
            have := List.pairwise_iff_getElem.1 (tch_rising l4) j (j + 1) hjl hil' (by omega)
            exact ⟨y, q0, by omega⟩
          obtain ⟨s, hs⟩ : ∃ s, s = bitsOf ((tch l4).take i2) := ⟨_, rfl⟩
          rw [← hs] at hbs hlt ⊢
          have Hbs := hid hbs
          have Hor := hid (or_bit s z hlt hz64)
          have h64' : (z : Int) < 64 := by omega
          have Hnb := hid hnb
          clear hz hsucc hbs hrow hs hnb
          rcases Nat.eq_zero_or_pos i2 with h0 | h0
          · subst h0
            go_wp2_with (at_builtin; refine stopAt ?_; intro q hq)
            go_quiet (fail)
            go_wp2_with (at_builtin; refine stopAt ?_; intro q hq)
            refine ⟨⟨1, by omega, by rw [Hor.out]; exact congrArg (fun z : Nat => Value.int .u64 (z : Int)) Hbs.out.symm, rfl, hid (HK.out.drewN _)⟩, by simp [intOf]; omega⟩
          · obtain ⟨j, rfl⟩ : ∃ j, i2 = j + 1 := ⟨i2 - 1, by omega⟩
            obtain ⟨y, q0, hyz⟩ := Hnb.out j rfl
            have hj1 : (j : Int) < tn := by omega
            have t1 : decide (z ≤ y) = false := by simp; omega
            go_wp2_with (at_builtin; refine stopAt ?_; intro q hq)
            go_quiet (fail)
            go_wp2_with (at_builtin; refine stopAt ?_; intro q hq)
            refine ⟨⟨j + 1 + 1, by omega, by rw [Hor.out]; exact congrArg (fun z : Nat => Value.int .u64 (z : Int)) Hbs.out.symm, by go_num, hid (HK.out.drewN _)⟩, by simp [intOf]; omega⟩
        · have h5 : decide ((i2 : Int) < tn) = false := by simp; omega
          have he : i2 = tn := by omega
          have e : (tch l4).take i2 = tch l4 := by rw [he, HTN.out, List.take_length]
          rw [e, ← HS.out]
          have hlen4 : l4.length = len := HL.out.symm
          have hr5 := HR4.out.keep HK.out (fun _ _ x => x)
          rw [hlen4] at hr5
          have hx5 := HX4.out.step HK.out
          have hown : ∀ b, (Value.slice ao len cap).ownBlock = some b → w2.heap.size ≤ b := fun b e => Hown.out b (by rw [ownBlock_len ao l4.length len cap]; exact e)
          have HOw := hid hown
          obtain ⟨w5, hw5⟩ : ∃ w5, w5 = wr := ⟨_, rfl⟩
          rw [← hw5] at hr5 hx5 ⊢
          have HR5 := hid hr5
          have HX5 := hid hx5
          clear e he hlen4 hr5 hx5 hown hw5 HK HR4 HX4 HT HT64 HTN Hown
          go_wp2_with (at_builtin; refine stopAt ?_; intro q hq)
          go_loopw [18] (fun iv wr => ∃ i : Nat, i ≤ len ∧ iv = .int .i64 i ∧ Hid (∃ xs, Row wr 34 4 (.slice ao len cap) len xs ∧ Keep (fun b => (Value.slice ao len cap).ownBlock = some b) w5 wr)) (fun iv _ => len - (intOf iv).toNat)
          case atStart => exact ⟨0, Nat.zero_le _, rfl, hid ⟨_, HR5.out, Keep.refl _ _⟩⟩
          case round =>
            obtain ⟨i3, hi3, rfl, HZ⟩ := hrel
            by_cases hil3 : i3 < len
            · have h6 : (i3 : Int) < len := by omega
              obtain ⟨xs, hrow, hkp⟩ := HZ.out
              obtain ⟨g, cap', cur, fz, hv, -⟩ := hrow.some (by omega)
              cases hv
              have hfz := hrow.frozen (i3 * 4 + 3) (by omega)
              have hce := hrow.cell (i3 * 4 + 3) (by omega)
              have hxl := hrow.len
              obtain ⟨u, hu⟩ : ∃ u, xs[i3 * 4 + 3]? = some u := ⟨_, List.getElem?_eq_getElem (by omega)⟩
              rw [hu] at hce
              have HZ3 := hid (And.intro (hrow.setAny (i3 * 4 + 3) (.int .i64 0) rfl) (hkp.setCell (p := ⟨g, i3 * 4 + 3, none⟩) (.inl rfl) (.int .i64 0)))
              clear hrow hkp hxl hu HZ
              go_wp2_with (at_builtin; refine stopAt ?_; intro q hq)
              go_roundw
              case rel => exact ⟨i3 + 1, by omega, by go_num, hid ⟨_, HZ3.out.1, HZ3.out.2⟩⟩
              case measure => simp [intOf]; omega
            · have h6 : decide ((i3 : Int) < len) = false := by simp; omega
              obtain ⟨xs, -, hkp⟩ := HZ.out
              have X6 := HX5.out.beside hkp (fun b e => Nat.lt_of_lt_of_le H12.out (HOw.out b e))
              obtain ⟨i0, i1, i2', i3', if1, ib1⟩ := cells4 X6.at_
              have K5 := HX5.out.keep
              have K6 := hid (k01.out.next (K5.next hkp (fun _ _ x => x) (fun j hj e => by have := HOw.out j e; have := H12.out; omega)) (fun _ _ x => x) (fun j hj x => x))
              clear hkp X6 K5 HZ HX5 HR5
              go_wp2_with (at_builtin; refine stopAt ?_; intro q hq)
              refine (split_ok B C W U x' k SH.ok (by omega) (by omega) wr).mono ?_
              rintro e w7 ⟨v7, l7, rfl, hr7, hcov7, hfew7, hk7, -⟩
              obtain rfl : l7 = l4 := cov_unique hcov7 hfew7 HC.out.1 HC.out.2
              obtain ⟨ao7, cap7, rfl, -⟩ := hr7.form
              rw [← HL.out]
              have hl63 : (len : Int) ≤ 9223372036854775807 := by omega
              have K7 := hid (K6.out.next hk7 (fun _ _ x => x) (fun _ _ x => x))
              have HR7 := hid hr7
              clear hr7 hcov7 hfew7 hk7 K6 i0 i1 i2' i3' if1 ib1
              rcases Nat.eq_zero_or_pos k with hk0 | hk0
              · have t1 : ((k : Int) == 0) = true := by simp [hk0]
                go_wp2_with (at_builtin; refine stopAt ?_; intro q hq)
                refine (known_any w7).mono ?_
                rintro e w9 ⟨rfl, hk9⟩
                have K9 := hid (K7.out.next hk9 (fun _ _ x => x) (fun _ _ x => x))
                clear hk9
                go_wp2_with (at_builtin; refine stopAt ?_; intro q hq)
                go_ret
                exact ⟨by rfl, K9.out⟩
              · have t1 : ((k : Int) == 0) = false := by simp; omega
                have t2 : decide (k = 0) = false := by simp; omega
                have hl0 : 0 < l7.length := by
                  rcases Nat.eq_zero_or_pos l7.length with h | h
                  · have := HC.out.1.all
                    rw [List.length_eq_zero_iff.1 h] at this
                    simp [sumN] at this
                    omega
                  · exact h
                obtain ⟨g7, cap7', hv, -, -, -, p3⟩ := pcs_at HR7.out 0 hl0
                cases hv
                have hn7 := (HC.out.1.lies l7[0] (List.getElem_mem _)).pos
                rw [Nat.zero_mul, Nat.zero_add] at p3
                obtain ⟨n7, hn⟩ : ∃ n, n = l7[0].n := ⟨_, rfl⟩
                rw [← hn] at p3 hn7
                have t3 : (0 : Int) < (len : Int) := by have := HL.out; omega
                have t4 : (0 : Int) < (n7 : Int) := by omega
                have t5 : 0 < len := by omega
                have t6 : 0 < n7 := hn7
                clear hn hl0
                go_wp2_with (at_builtin; refine stopAt ?_; intro q hq)
                refine (known_any w7).mono ?_
                rintro e w9 ⟨rfl, hk9⟩
                have K9 := hid (K7.out.next hk9 (fun _ _ x => x) (fun _ _ x => x))
                clear hk9
                go_wp2_with (at_builtin; refine stopAt ?_; intro q hq)
                go_ret
                exact ⟨by rfl, K9.out⟩
end Go.Proofs.Ytmbfglblkpipcaa
