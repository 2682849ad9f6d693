/- SpanCovers: the walk. Conditions: none but that the arguments are ints and a word. -/
import Derived.Test.YtmbfglblkpipcaaSpanB
namespace Go.Proofs.Ytmbfglblkpipcaa
open Go.RowKit
open SM

set_option maxRecDepth 20000 in
set_option maxRecDepth 20000 in
/-- One block too many. -/
theorem split_long (B C W U lba k : Nat) (h : ShOk B C W U) (hk : k ≤ 65536) (hl : lba ≤ B) (hl2 : B < lba + k) (w : World) :
    Calls Try.prog 10 #[.agg #[.int .u64 B, .int .i64 C, .int .i64 W, .int .i64 U], .int .u64 lba, .int .i64 k] w fun e w' => e = .returned (.tuple #[.slice none 0 0, .int .i64 171]) ∧ Keep (fun _ => False) w w' := by
  have b1 := h.b1
  go_enter Try.func10, Try.ntmps10
  go_wp2_with (at_builtin; refine stopAt ?_; intro q hq)
  (obtain ⟨w1, hbox⟩ : ∃ wbx, wbx = w.alloc (.cells #[.int .u64 B, .int .i64 C, .int .i64 W, .int .i64 U] 25) := ⟨_, rfl⟩; have X1 := Boxed.new w B C W U; rw [← hbox] at X1 ⊢; clear hbox)
  refine (check_ok B C W U h w1).mono ?_
  rintro e w2 ⟨rfl, hk2⟩
  have X2 := X1.step hk2
  obtain ⟨i0, i1, i2, i3, if1, ib1⟩ := cells4 X2.at_
  have d1 : decide ((k : Int) < 0) = false := by simp
  have d2 : decide (65536 < k) = false := by simp; omega
  have d3 : decide (B < lba) = false := by simp; omega
  have K2 := hid X2.keep
  clear X1 X2 hk2
  go_wp2_with (at_builtin; refine stopAt ?_; intro q hq)
  go_ret2
  exact ⟨rfl, K2.out⟩

/-- One of the pieces, as the code loads it. -/
theorem pcs_at {wr : World} {v : Value} {l : List Pc} (h : Row wr 34 4 v l.length (pcsV l)) (i : Nat) (hi : i < l.length) :
    ∃ g cap, v = .slice (some ⟨g, 0, none⟩) l.length cap ∧ wr.cell? ⟨g, i * 4, none⟩ = some (.int .i64 (l[i].c : Int)) ∧ wr.cell? ⟨g, i * 4 + 1, none⟩ = some (.int .i64 (l[i].a : Int)) ∧ wr.cell? ⟨g, i * 4 + 2, none⟩ = some (.int .i64 (l[i].f : Int)) ∧ wr.cell? ⟨g, i * 4 + 3, none⟩ = some (.int .i64 (l[i].n : Int)) := by
  have get : ∀ t u, (pcV l[i])[t]? = some u → ∃ g cap, v = .slice (some ⟨g, 0, none⟩) l.length cap ∧ wr.cell? ⟨g, i * 4 + t, none⟩ = some u := fun t u hu => by
    have ht : t < 4 := (List.getElem?_eq_some_iff.1 hu).1
    have h1 := pcsV_get l i hi t ht
    rw [hu] at h1
    exact h.getCell h1
  obtain ⟨g, cap, rfl, h0⟩ := get 0 _ rfl
  obtain ⟨g1, cap1, hv1, h1⟩ := get 1 _ rfl
  obtain ⟨g2, cap2, hv2, h2⟩ := get 2 _ rfl
  obtain ⟨g3, cap3, hv3, h3⟩ := get 3 _ rfl
  cases hv1
  cases hv2
  cases hv3
  exact ⟨g, cap, rfl, h0, h1, h2, h3⟩

set_option maxRecDepth 20000 in
set_option maxHeartbeats 2000000 in
theorem covers_walk (w : World) (a b c d : Int) (ha : -9223372036854775808 ≤ a ∧ a ≤ 9223372036854775807) (hb : -9223372036854775808 ≤ b ∧ b ≤ 9223372036854775807) (hc : -9223372036854775808 ≤ c ∧ c ≤ 9223372036854775807) (hd : -9223372036854775808 ≤ d ∧ d ≤ 9223372036854775807)
    (xi : Int) (hx0 : 0 ≤ xi) (hx1 : xi ≤ 18446744073709551615) (ki : Int) (_hk0 : -9223372036854775808 ≤ ki) (_hk1 : ki ≤ 9223372036854775807) :
    Calls Try.prog 6 #[.agg #[.int .i64 a, .int .i64 b, .int .i64 c, .int .i64 d], .int .u64 xi, .int .i64 ki] w fun e w' => e = .returned (.bool true) ∧ Keep (fun _ => False) w w' := by
  obtain ⟨x, rfl⟩ : ∃ n : Nat, (n : Int) = xi := ⟨xi.toNat, by omega⟩
  go_enter Try.func6, Try.ntmps6
  go_wp2_with (at_builtin; refine stopAt ?_; intro q hq)
  have hkA : Keep (fun _ => False) w (w.alloc (.cells #[.int .i64 a, .int .i64 b, .int .i64 c, .int .i64 d] 22)) := (Keep.refl _ _).alloc _
  obtain ⟨w0, hw0⟩ : ∃ w0, w0 = w.alloc (.cells #[.int .i64 a, .int .i64 b, .int .i64 c, .int .i64 d] 22) := ⟨_, rfl⟩
  rw [← hw0] at hkA ⊢
  clear hw0
  refine (shape_any w0 a b c d ha hb hc hd).mono ?_
  rintro e w1 ⟨U, m, W, n, L, rfl, hk1'⟩
  have SH := L.shaped
  obtain ⟨C, hC⟩ : ∃ z, z = U * m := ⟨_, rfl⟩
  rw [← hC] at SH ⊢
  obtain ⟨B, hB⟩ : ∃ z, z = n * W * C := ⟨_, rfl⟩
  rw [← hB] at SH ⊢
  clear hC hB L
  have k01 := hid (hkA.next hk1' (fun _ _ x => x) (fun _ _ x => x))
  have hB0 : 0 < B := SH.ok.b0
  have hBz : (B : Int) ≠ 0 := by omega
  have hx2 : x % B < B := Nat.mod_lt _ hB0
  obtain ⟨x', hx'⟩ : ∃ z, z = x % B := ⟨_, rfl⟩
  have r1 : (x : Int) % (B : Int) = (x' : Int) := by rw [hx']; exact (Int.natCast_emod _ _).symm
  rw [← hx'] at hx2
  have hb1 := SH.b1
  obtain ⟨R, hR⟩ : ∃ z, z = B - x' + 1 := ⟨_, rfl⟩
  have hR0 : 0 < R := by omega
  have r2 : (B : Int) - (x' : Int) + 1 = (R : Int) := by omega
  obtain ⟨k, hk⟩ : ∃ k : Nat, (k : Int) = ki % 18446744073709551616 % (R : Int) := ⟨(ki % 18446744073709551616 % (R : Int)).toNat, by have := Int.emod_nonneg (ki % 18446744073709551616) (show (R : Int) ≠ 0 by omega); omega⟩
  have hkR : k < R := by have := Int.emod_lt_of_pos (ki % 18446744073709551616) (show (0 : Int) < R by omega); omega
  have r3 := umod_int ki R (by omega) (by omega)
  rw [← hk] at r3
  have hRz : (R : Int) ≠ 0 := by omega
  have hRn : R ≤ 4801 := by omega
  have hkB : x' + k ≤ B := by omega
  have hRB : B < x' + R := by omega
  clear hx' hkA hk1' hk hR
  go_wp2_with (at_builtin; refine stopAt ?_; intro q hq)
  (obtain ⟨w2, hbox⟩ : ∃ wbx, wbx = w1.alloc (.cells #[.int .u64 B, .int .i64 C, .int .i64 W, .int .i64 U] 25) := ⟨_, rfl⟩; have X2 := Boxed.new w1 B C W U; rw [← hbox] at X2 ⊢; clear hbox)
  refine (split_ok B C W U x' k SH.ok (by omega) (by omega) w2).mono ?_
  rintro e w3 ⟨v, l, rfl, hr3, hcov, hfew, hk3, hown⟩
  have X3 := X2.step hk3
  obtain ⟨i0, i1, i2, i3, if1, ib1⟩ := cells4 X3.at_
  obtain ⟨ao, cap, rfl, hcap, hmax, -⟩ := hr3.form
  have HR := hid hr3
  have HC := hid hcov
  have hlk : l.length ≤ k := Cov.few hcov
  obtain ⟨len, hlen⟩ : ∃ n, n = l.length := ⟨_, rfl⟩
  rw [← hlen] at hlk hcap ⊢
  have HL := hid hlen
  have HX3 := hid X3
  clear X2 hk3 hr3 hcov hfew hown hlen r3 X3 hmax hcap
  go_wp2_with (at_builtin; refine stopAt ?_; intro q hq)
  clear i0 i1 i2 i3 if1 ib1
  go_loopw [12, 13] (fun av iv wr => ∃ i : Nat, i ≤ len ∧ av = .int .i64 ((sumN (l.take i) : Nat) : Int) ∧ iv = .int .i64 i ∧ Hid (Keep (fun _ => False) w3 wr)) (fun _ iv _ => len - (intOf iv).toNat)
  case atStart => exact ⟨0, Nat.zero_le _, rfl, rfl, hid (Keep.refl _ _)⟩
  case round =>
    obtain ⟨i, hi, rfl, rfl, HK⟩ := hrel
    by_cases hil : i < len
    · have h4 : (i : Int) < len := by omega
      have hil' : i < l.length := by rw [← HL.out]; exact hil
      obtain ⟨g, cap', hv, p0, p1, p2, p3⟩ := pcs_at (HR.out.keep HK.out (fun _ _ x => x)) i hil'
      rw [← HL.out] at hv
      cases hv
      have hf := HC.out.from_ i hil'
      have hlies := HC.out.lies l[i] (List.getElem_mem _)
      have hs1 := sumN_take_succ l i hil'
      have hs2 := sumN_take_le l (i + 1)
      rw [HC.out.all] at hs2
      obtain ⟨p, hp⟩ : ∃ p, p = l[i] := ⟨_, rfl⟩
      rw [← hp] at p0 p1 p2 p3 hf hlies hs1
      obtain ⟨s, hs⟩ : ∃ s, s = sumN (l.take i) := ⟨_, rfl⟩
      rw [← hs] at hf hs1 ⊢
      have Hs1 := hid hs1
      clear hp hs hs1
      obtain ⟨pc, pa, pf, pn⟩ := p
      simp only at p0 p1 p2 p3 hf
      obtain ⟨hn1, hlie⟩ := hlies
      simp only at hn1 hlie
      have hs1 := Hs1.out
      simp only at hs1
      have HS := hid (And.intro hs1 hs2)
      subst hf
      have hsn : pf + pn ≤ k := by omega
      clear hs1 hs2 Hs1
      have HLie := hid hlie
      clear hlie
      have q1 : decide ((pn : Int) < 1) = false := by simp; omega
      go_wp2_with (at_builtin; refine stopAt ?_; intro q hq)
      have hg6 := heap_alloc_new wr (.cells #[.int .i64 (pc : Int), .int .i64 (pa : Int), .int .i64 (pf : Int), .int .i64 (pn : Int)] 34)
      have hk6 : Keep (fun _ => False) wr (wr.alloc (.cells #[.int .i64 (pc : Int), .int .i64 (pa : Int), .int .i64 (pf : Int), .int .i64 (pn : Int)] 34)) := (Keep.refl _ _).alloc _
      obtain ⟨w6, hw6⟩ : ∃ w6, w6 = wr.alloc (.cells #[.int .i64 (pc : Int), .int .i64 (pa : Int), .int .i64 (pf : Int), .int .i64 (pn : Int)] 34) := ⟨_, rfl⟩
      rw [← hw6] at hg6 hk6 ⊢
      obtain ⟨bp, hbp⟩ : ∃ bp, bp = wr.heap.size := ⟨_, rfl⟩
      rw [← hbp] at hg6 ⊢
      have HG6 := hid hg6
      have HK6 := hid (HK.out.next hk6 (fun _ _ x => x) (fun _ _ x => x))
      clear hw6 hbp hg6 hk6 p0 p1 p2 p3
      go_loopw [12, 15] (fun av jv wr => ∃ j : Nat, j ≤ pn ∧ av = .int .i64 ((pf : Int) + j) ∧ jv = .int .i64 j ∧ Hid (Keep (fun _ => False) w6 wr)) (fun _ jv _ => pn - (intOf jv).toNat)
      case atStart => exact ⟨0, Nat.zero_le _, by simp, rfl, hid (Keep.refl _ _)⟩
      case round =>
        obtain ⟨j, hj, rfl, rfl, HK7⟩ := hrel
        obtain ⟨p0, p1, p2, p3, -, -⟩ := cells4 (HK7.out.get HG6.out id)
        obtain ⟨i0, i1, i2, i3, if1, ib1⟩ := cells4 ((HX3.out.step HK6.out).step HK7.out).at_
        by_cases hjn : j < pn
        · have h5 : (j : Int) < pn := by omega
          have hpx : x' + pf + j < B := by omega
          have hwh := HLie.out j hjn
          have hback := back_ok B C W U (wh C W U (x' + pf + j)).1 (wh C W U (x' + pf + j)).2 SH.ok (SH.chunk_lt hpx) (SH.at_lt _)
          rw [bk_wh SH.ok.w0 SH.ok.u0, hwh] at hback
          have haj : pa + j < C := by have := SH.at_lt (x' + pf + j); rw [hwh] at this; exact this
          have hc1 := SH.c1
          simp only at hback
          obtain ⟨paj, hpaj⟩ : ∃ z, z = pa + j := ⟨_, rfl⟩
          have e1 : (pa : Int) + (j : Int) = (paj : Int) := by omega
          obtain ⟨xj, hxj⟩ : ∃ z, z = x' + pf + j := ⟨_, rfl⟩
          rw [← hpaj, ← hxj] at hback
          have e2 : (x' : Int) + ((pf : Int) + (j : Int)) = (xj : Int) := by omega
          have hwj : xj ≤ 4800 := by omega
          clear hpaj hxj
          go_wp2_with (at_builtin; refine stopAt ?_; intro q hq)
          refine (hback wr).mono ?_
          rintro e w8 ⟨rfl, hk8⟩
          have HK8 := hid (HK7.out.next hk8 (fun _ _ x => x) (fun _ _ x => x))
          clear hk8 hback hwh p0 p1 p2 p3 i0 i1 i2 i3 if1 ib1
          go_wp2_with (at_builtin; refine stopAt ?_; intro q hq)
          go_roundw
          case rel => exact ⟨j + 1, by omega, by go_num, by go_num, HK8⟩
          case measure => simp [intOf]; omega
        · have h5 : decide ((j : Int) < pn) = false := by simp; omega
          have hjp : j = pn := by omega
          go_wp2_with (at_builtin; refine stopAt ?_; intro q hq)
          go_roundw
          case rel => exact ⟨i + 1, by omega, by rw [HS.out.1, hjp]; go_num, by go_num, hid (HK6.out.next HK7.out (fun _ _ x => x) (fun _ _ x => x))⟩
          case measure => simp [intOf]; omega
    · have h4 : decide ((i : Int) < len) = false := by simp; omega
      have he : i = len := by omega
      have e : sumN (l.take i) = k := by rw [he, HL.out, List.take_length]; exact HC.out.all
      rw [e]
      have X4 := HX3.out.step HK.out
      obtain ⟨i0, i1, i2, i3, if1, ib1⟩ := cells4 X4.at_
      clear e he
      go_wp2_with (at_builtin; refine stopAt ?_; intro q hq)
      refine (split_long B C W U x' R SH.ok (by omega) (by omega) hRB wr).mono ?_
      rintro e w8 ⟨rfl, hk8⟩
      have X5 := X4.step hk8
      clear i0 i1 i2 i3 if1 ib1 X4 hk8
      go_wp2_with (at_builtin; refine stopAt ?_; intro q hq)
      refine (known_any w8).mono ?_
      rintro e w9 ⟨rfl, hk9⟩
      have K9 := hid (k01.out.next (X5.step hk9).keep (fun _ _ x => x) (fun _ _ x => x))
      clear X5 hk9
      go_wp2_with (at_builtin; refine stopAt ?_; intro q hq)
      go_ret
      exact ⟨by rfl, K9.out⟩
end Go.Proofs.Ytmbfglblkpipcaa
