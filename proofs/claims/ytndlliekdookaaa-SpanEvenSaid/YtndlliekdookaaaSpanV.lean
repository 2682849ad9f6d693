/- SpanEven: the walk. Conditions: none but that the arguments are ints. -/
import Derived.Test.YtndlliekdookaaaSpanC
namespace Go.Proofs.Ytndlliekdookaaa
open Go.RowKit
open SM

/-- How many blocks each of six chunks has among the first i pieces. -/
def hasV (l : List Pc) (i : Nat) : List Value := (List.range 6).map fun c => .int .i64 ((hasN (l.take i) c : Nat) : Int)
theorem hasV_get (l : List Pc) (i c : Nat) (hc : c < 6) : (hasV l i)[c]? = some (.int .i64 ((hasN (l.take i) c : Nat) : Int)) := by
  simp [hasV, hc]
theorem hasN_succ (l : List Pc) (i : Nat) (hi : i < l.length) (c : Nat) : hasN (l.take (i + 1)) c = hasN (l.take i) c + if l[i].c = c then l[i].n else 0 := by
  rw [List.take_add_one, List.getElem?_eq_getElem hi, Option.toList_some, hasN_append, hasN_one]
theorem hasV_set (l : List Pc) (i : Nat) (hi : i < l.length) : (hasV l i).set l[i].c (.int .i64 ((hasN (l.take i) l[i].c : Nat) + (l[i].n : Int))) = hasV l (i + 1) := by
  apply List.ext_getElem?
  intro c
  rw [List.getElem?_set]
  by_cases hc : c < 6
  · rw [hasV_get l (i + 1) c hc, hasV_get l i c hc, hasN_succ l i hi]
    by_cases h : l[i].c = c
    · rw [if_pos h, if_pos h, if_pos (by simp [hasV]; omega), h]
      simp
    · rw [if_neg h, if_neg h]
      simp
  · have h1 : (hasV l i)[c]? = none := by simp [hasV]; omega
    have h2 : (hasV l (i + 1))[c]? = none := by simp [hasV]; omega
    rw [h1, h2]
    split
    · rw [if_neg (by simp [hasV]; omega)]
    · rfl
theorem hasN_le (l : List Pc) (c : Nat) : hasN l c ≤ sumN l := by
  induction l with
  | nil => simp [hasN, sumN]
  | cons p l ih =>
    simp only [hasN, sumN, List.map_cons, List.sum_cons] at *
    split <;> omega

structure HasRel (hb : Nat) (w3 : World) (l : List Pc) (i : Nat) (wr : World) : Prop where
  at_ : wr.heap[hb]? = some (.cells (hasV l i).toArray 32 (0, 0))
  keep : Keep (fun b => b = hb) w3 wr

set_option maxRecDepth 20000 in
set_option maxHeartbeats 2000000 in
theorem even_walk (w : World) (a b c d : Int) (ha : -9223372036854775808 ≤ a ∧ a ≤ 9223372036854775807) (hb : -9223372036854775808 ≤ b ∧ b ≤ 9223372036854775807) (hc : -9223372036854775808 ≤ c ∧ c ≤ 9223372036854775807) (hd : -9223372036854775808 ≤ d ∧ d ≤ 9223372036854775807)
    (fi : Int) (_hf0 : -9223372036854775808 ≤ fi) (_hf1 : fi ≤ 9223372036854775807) (ki : Int) (_hk0 : -9223372036854775808 ≤ ki) (_hk1 : ki ≤ 9223372036854775807) :
    Calls Try.prog 3 #[.agg #[.int .i64 a, .int .i64 b, .int .i64 c, .int .i64 d], .int .i64 fi, .int .i64 ki] w fun e w' => e = .returned (.bool true) ∧ Keep (fun _ => False) w w' := by
  go_enter Try.func3, Try.ntmps3
  go_wp2_with (at_builtin; refine stopAt ?_; intro q hq)
  have hkA : Keep (fun _ => False) w (w.alloc (.cells #[.int .i64 a, .int .i64 b, .int .i64 c, .int .i64 d] 22)) := (Keep.refl _ _).alloc _
  obtain ⟨w0, hw0⟩ : ∃ w0, w0 = w.alloc (.cells #[.int .i64 a, .int .i64 b, .int .i64 c, .int .i64 d] 22) := ⟨_, rfl⟩
  rw [← hw0] at hkA ⊢
  clear hw0
  refine (shape_any w0 a b c d ha hb hc hd).mono ?_
  rintro e w1 ⟨U, m, W, n, L, rfl, hk1'⟩
  have SH := L.shaped
  have u0 := L.u0
  have u1 := L.u1
  have m0 := L.m0
  have m1 := L.m1
  have v0 := L.w0
  have v1 := L.w1
  have n0 := L.n0
  obtain ⟨C, hC⟩ : ∃ z, z = U * m := ⟨_, rfl⟩
  rw [← hC] at SH ⊢
  obtain ⟨B, hB⟩ : ∃ z, z = n * W * C := ⟨_, rfl⟩
  rw [← hB] at SH ⊢
  clear hB L
  have k01 := hid (hkA.next hk1' (fun _ _ x => x) (fun _ _ x => x))
  -- the numbers of the law
  obtain ⟨size, hsize⟩ : ∃ z, z = U * W := ⟨_, rfl⟩
  have hs1 : size ≤ 8 * 6 := by rw [hsize]; exact Nat.mul_le_mul u1 v1
  have hs0 : 0 < size := by rw [hsize]; exact Nat.mul_pos u0 v0
  have r1 : (U : Int) * (W : Int) = (size : Int) := by rw [hsize]; exact (Int.natCast_mul _ _).symm
  have r2 : (C : Int) / (U : Int) = (m : Int) := by rw [hC, ← Int.natCast_ediv, Nat.mul_div_cancel_left _ u0]
  obtain ⟨f, hf⟩ : ∃ k : Nat, (k : Int) = fi % 18446744073709551616 % (m : Int) := ⟨(fi % 18446744073709551616 % (m : Int)).toNat, by have := Int.emod_nonneg (fi % 18446744073709551616) (show (m : Int) ≠ 0 by omega); omega⟩
  have hfm : f < m := by have := Int.emod_lt_of_pos (fi % 18446744073709551616) (show (0 : Int) < m by omega); omega
  have r3 := umod_int fi m (by omega) (by omega)
  rw [← hf] at r3
  obtain ⟨rest, hrest⟩ : ∃ z, z = m - f := ⟨_, rfl⟩
  have r4 : (m : Int) - (f : Int) = (rest : Int) := by omega
  have hrest0 : 0 < rest := by omega
  obtain ⟨k', hk'⟩ : ∃ k : Nat, (k : Int) = ki % 18446744073709551616 % (rest : Int) := ⟨(ki % 18446744073709551616 % (rest : Int)).toNat, by have := Int.emod_nonneg (ki % 18446744073709551616) (show (rest : Int) ≠ 0 by omega); omega⟩
  have hkr : k' < rest := by have := Int.emod_lt_of_pos (ki % 18446744073709551616) (show (0 : Int) < rest by omega); omega
  have r5 := umod_int ki rest (by omega) (by omega)
  rw [← hk'] at r5
  obtain ⟨k, hk⟩ : ∃ z, z = 1 + k' := ⟨_, rfl⟩
  have r6 : (1 : Int) + (k' : Int) = (k : Int) := by omega
  have hfk : f + k ≤ m := by omega
  have w1m := wrapU m (by omega)
  have w1r := wrapU rest (by omega)
  obtain ⟨lba, hlba⟩ : ∃ z, z = f * size := ⟨_, rfl⟩
  obtain ⟨cnt', hcnt⟩ : ∃ z, z = k * size := ⟨_, rfl⟩
  have r7 : (f : Int) * (size : Int) = (lba : Int) := by rw [hlba]; exact (Int.natCast_mul _ _).symm
  have r8 : (k : Int) * (size : Int) = (cnt' : Int) := by rw [hcnt]; exact (Int.natCast_mul _ _).symm
  have hWC : (f + k) * (U * W) ≤ W * C := by
    have e : W * C = m * (U * W) := by rw [hC, ← Nat.mul_assoc, Nat.mul_comm W U, Nat.mul_comm]
    rw [e]
    exact Nat.mul_le_mul_right _ hfk
  have hsum : lba + cnt' = (f + k) * (U * W) := by rw [hlba, hcnt, hsize, Nat.add_mul]
  have hWB : W * C ≤ B := by rw [SH.b]; exact Nat.le_mul_of_pos_left _ n0
  have hb1 := SH.b1
  have hlB : lba + cnt' ≤ B := by omega
  have hev := fun c (hc : c < W) => cnt_even (first := f) (k := k) u0 hc hWC
  rw [← hsize, ← hlba, ← hcnt] at hev
  have HEv := hid hev
  have HWC := hid hWC
  have HSum := hid hsum
  have hUz : (U : Int) ≠ 0 := by omega
  have hmz : (m : Int) ≠ 0 := by omega
  have hrz : (rest : Int) ≠ 0 := by omega
  have hmn : m ≤ 20 := m1
  clear hC hsize hf hrest hk' hk hlba hcnt hev hWC hsum hkA hk1'
  go_wp2_with (at_builtin; refine stopAt ?_; intro q hq)
  (obtain ⟨w2, hbox⟩ : ∃ wbx, wbx = w1.alloc (.cells #[.int .u64 B, .int .i64 C, .int .i64 W, .int .i64 U] 25) := ⟨_, rfl⟩; have X2 := Boxed.new w1 B C W U; rw [← hbox] at X2 ⊢; clear hbox)
  have hcn : cnt' ≤ 4800 := by omega
  refine (split_ok B C W U lba cnt' SH.ok (by omega) hlB w2).mono ?_
  rintro e w3 ⟨v, l, rfl, hr3, hcov, hfew, hk3, hown⟩
  have X3 := X2.step hk3
  obtain ⟨ao, cap, rfl, hcap, hmax, -⟩ := hr3.form
  have HR := hid hr3
  have HC := hid hcov
  have hlk : l.length ≤ cnt' := Cov.few hcov
  obtain ⟨len, hlen⟩ : ∃ n, n = l.length := ⟨_, rfl⟩
  rw [← hlen] at hlk hcap ⊢
  have HL := hid hlen
  have HX3 := hid X3
  have hev : ∀ c, c < W → hasN l c = k * U := fun c hc => by rw [hasN_cov HC.out c]; exact HEv.out c hc
  have Hev := hid hev
  have HN : Hid (∀ i (hi : i < l.length), l[i].c < W ∧ ∀ c, hasN (l.take i) c + l[i].n ≤ 4800) := hid fun i hi => by
    have h1 := HC.out.lies l[i] (List.getElem_mem _)
    have h2 := HC.out.from_ i hi
    have h3 := sumN_take_succ l i hi
    have h4 := sumN_take_le l (i + 1)
    rw [HC.out.all] at h4
    have h5 := h1.lie 0 h1.pos
    have h6 := wh_chunk_lt (C := C) (W := W) (U := U) (q := 1) (x := lba + l[i].f + 0) v0 (by have := HWC.out; have := HSum.out; have := h1.pos; omega)
    rw [h5] at h6
    refine ⟨by simpa using h6, fun c => ?_⟩
    have := hasN_le (l.take i) c
    omega
  clear X2 hk3 hr3 hcov hfew hown hlen r3 r4 r5 r7 r8 X3 hmax hcap hev hlB
  go_wp2_with (at_builtin; refine stopAt ?_; intro q hq)
  have hg4 := heap_alloc_new w3 (.cells #[.int .i64 0, .int .i64 0, .int .i64 0, .int .i64 0, .int .i64 0, .int .i64 0] 32)
  have hk4 : Keep (fun _ => False) w3 (w3.alloc (.cells #[.int .i64 0, .int .i64 0, .int .i64 0, .int .i64 0, .int .i64 0, .int .i64 0] 32)) := (Keep.refl _ _).alloc _
  obtain ⟨w4, hw4⟩ : ∃ w4, w4 = w3.alloc (.cells #[.int .i64 0, .int .i64 0, .int .i64 0, .int .i64 0, .int .i64 0, .int .i64 0] 32) := ⟨_, rfl⟩
  rw [← hw4] at hg4 hk4 ⊢
  clear hw4
  have X4 := HX3.out.step hk4
  have hlb := heap_lt HX3.out.at_
  have hr4 := HR.out.keep hk4 (fun _ _ x => x)
  have hro : ∀ b, (Value.slice ao l.length cap).ownBlock = some b → b ≠ w3.heap.size := fun b e => by have := HR.out.lt e; omega
  obtain ⟨bh, hbh⟩ : ∃ bh, bh = w3.heap.size := ⟨_, rfl⟩
  rw [← hbh] at hg4 hlb hro ⊢
  have hbw : w.heap.size ≤ bh := by
    have h1 := k01.out.size
    omega
  have R4 := hid (HasRel.mk (hb := bh) (w3 := w4) (l := l) (i := 0) (wr := w4) (by rw [hg4]; rfl) (Keep.refl _ _))
  have H4 := hid (And.intro X4 (And.intro hr4 (And.intro hlb hro)))
  have HK4 := hid ((k01.out.next HX3.out.keep (fun _ _ x => x) (fun _ _ x => x)).next hk4 (fun _ _ x => x) (fun _ _ x => x))
  clear hg4 hk4 X4 hlb hr4 hro hbh
  go_loopw [15] (fun iv wr => ∃ i : Nat, i ≤ len ∧ iv = .int .i64 i ∧ Hid (HasRel bh w4 l i wr)) (fun iv _ => len - (intOf iv).toNat)
  case atStart => exact ⟨0, Nat.zero_le _, rfl, R4⟩
  case round =>
    clear R4
    obtain ⟨i, hi, rfl, HI⟩ := hrel
    obtain ⟨X4, hr4, hlb, hro⟩ := H4.out
    obtain ⟨i0, i1, i2, i3, if1, ib1⟩ := cells4 (HI.out.keep.get X4.at_ (by omega))
    by_cases hil : i < len
    · have h4 : (i : Int) < len := by omega
      have hil' : i < l.length := by rw [← HL.out]; exact hil
      obtain ⟨g, cap', hv, p0, p1, p2, p3⟩ := pcs_at (hr4.keep HI.out.keep (fun b e x => hro b e x)) i hil'
      rw [← HL.out] at hv
      cases hv
      obtain ⟨hcW, hsum⟩ := HN.out i hil'
      have hset := hasV_set l i hil'
      have hbnd := hsum l[i].c
      have hcell : wr.cell? ⟨bh, l[i].c, none⟩ = some (.int .i64 ((hasN (l.take i) l[i].c : Nat) : Int)) := by
        rw [cell_of_row _ _ _ _ _ _ HI.out.at_]
        have := hasV_get l i l[i].c (by omega)
        simpa using this
      have hfz : wr.frozen? ⟨bh, l[i].c, none⟩ = false := by simp [World.frozen?, HI.out.at_]
      obtain ⟨p, hp⟩ : ∃ p, p = l[i] := ⟨_, rfl⟩
      rw [← hp] at p0 p1 p2 p3 hcW hset hbnd hcell hfz
      clear hp hsum
      obtain ⟨pc, pa, pf, pn⟩ := p
      simp only at p0 p1 p2 p3 hcW hset hbnd hcell hfz
      obtain ⟨hn, hhn⟩ : ∃ z, z = hasN (l.take i) pc := ⟨_, rfl⟩
      rw [← hhn] at hset hbnd hcell
      have Hset := hid hset
      clear hset hhn X4 hr4 hlb hro
      have q1 : decide ((pc : Int) < 0) = false := by simp
      have q2 : decide (W ≤ pc) = false := by simp; omega
      have q3 : (pc : Int) < 6 := by omega
      go_wp2_with (at_builtin; refine stopAt ?_; intro q hq)
      go_quiet (fail)
      go_wp2_with (at_builtin; refine stopAt ?_; intro q hq)
      refine wp_region_canon [] (by kernel_rfl) (by kernel_rfl) ?_
      repeat (first | (apply wpC_pure (by rfl); (intro K w'; go_simp; exact id)) | (apply wpC_load (by rfl); (intro K; go_simp; exact id)))
      (refine wpC_act (by rfl) (by rfl) (fun K hK => ?_); go_simp; refine hK _ _ ?_; clear hK K)
      refine wpC_nil ?_
      have ew : IntKind.i64.wrap ((hn : Int) + (pn : Int)) = (hn : Int) + (pn : Int) := by rw [← Int.natCast_add]; exact wrapS _ (by omega)
      rw [ew]
      have hkW : Keep (fun b => b = bh) w4 ((wr.drewN (nq + 1)).setCell ⟨bh, pc, none⟩ (.int .i64 ((hn : Int) + (pn : Int)))) := by
        refine Keep.setCell (HI.out.keep.drewN _) (.inl ?_) _; rfl
      have hgW : ((wr.drewN (nq + 1)).setCell ⟨bh, pc, none⟩ (.int .i64 ((hn : Int) + (pn : Int)))).heap[bh]? = some (.cells (hasV l (i + 1)).toArray 32 (0, 0)) := by
        rw [heap_setCell_same (wr.drewN (nq + 1)) bh pc _ _ _ HI.out.at_, ← Hset.out]
        simp
      have HI2 := hid (HasRel.mk (i := i + 1) hgW hkW)
      obtain ⟨wN, hwN⟩ : ∃ wN, wN = (wr.drewN (nq + 1)).setCell ⟨bh, pc, none⟩ (.int .i64 ((hn : Int) + (pn : Int))) := ⟨_, rfl⟩
      rw [← hwN] at HI2 ⊢
      clear hwN ew hkW hgW p0 p1 p2 p3 hcell hfz i0 i1 i2 i3 if1 ib1
      go_wp2_with (at_builtin; refine stopAt ?_; intro q hq)
      go_roundw
      case rel => exact ⟨i + 1, by omega, by go_num, HI2⟩
      case measure => simp [intOf]; omega
    · have h4 : decide ((i : Int) < len) = false := by simp; omega
      have he : l.take i = l := by rw [show i = l.length by rw [← HL.out]; omega]; exact List.take_length
      have hcells : ∀ c, c < 6 → wr.cell? ⟨bh, c, none⟩ = some (.int .i64 ((hasN l c : Nat) : Int)) := fun c hc => by
        rw [cell_of_row _ _ _ _ _ _ HI.out.at_]
        have := hasV_get l i c hc
        rw [he] at this
        simpa using this
      have HCe := hid hcells
      have X4 := HI.out.keep.get X4.at_ (by omega)
      clear hcells he hr4 hro
      have HKf := hid (HK4.out.next HI.out.keep (fun _ _ x => x) (fun j hj x => by omega))
      go_wp2_with (at_builtin; refine stopAt ?_; intro q hq)
      obtain ⟨wq, hwq⟩ : ∃ wq, wq = wr := ⟨_, rfl⟩
      subst hwq
      clear i0 i1 i2 i3 if1 ib1
      have HX := hid X4
      clear X4
      obtain ⟨ku, hku⟩ : ∃ z, z = k * U := ⟨_, rfl⟩
      have r9 : (k : Int) * (U : Int) = (ku : Int) := by rw [hku]; exact (Int.natCast_mul _ _).symm
      have hkub : ku ≤ 21 * 8 := by rw [hku]; exact Nat.mul_le_mul (by omega) u1
      have HKU := hid hku
      clear hku
      go_loopw [16] (fun jv wr => ∃ j : Nat, j ≤ W ∧ jv = .int .i64 j ∧ Hid (Keep (fun _ => False) wq wr)) (fun jv _ => W - (intOf jv).toNat)
      case atStart => exact ⟨0, Nat.zero_le _, rfl, hid (Keep.refl _ _)⟩
      case round =>
        obtain ⟨j, hj, rfl, HQ⟩ := hrel
        obtain ⟨i0, i1, i2, i3, if1, ib1⟩ := cells4 (HQ.out.get HX.out id)
        by_cases hjW : j < W
        · have h5 : (j : Int) < W := by omega
          have h6 : (j : Int) < 6 := by omega
          have hcell := HCe.out j (by omega)
          rw [Hev.out j hjW, ← HKU.out] at hcell
          have hcell' : wr.cell? ⟨bh, j, none⟩ = some (.int .i64 (ku : Int)) := by
            rw [World.cell?_of_block (HQ.out.block _ (World.block_lt_of_cell? _ _ hcell) id)]
            exact hcell
          clear hcell
          go_wp2_with (at_builtin; refine stopAt ?_; intro q hq)
          go_quiet (fail)
          go_wp2_with (at_builtin; refine stopAt ?_; intro q hq)
          go_roundw
          case rel => exact ⟨j + 1, by omega, by go_num, hid (HQ.out.drewN _)⟩
          case measure => simp [intOf]; omega
        · have h5 : decide ((j : Int) < W) = false := by simp; omega
          go_wp2_with (at_builtin; refine stopAt ?_; intro q hq)
          refine (known_any wr).mono ?_
          rintro e w9 ⟨rfl, hk9⟩
          have K9 := hid ((HKf.out.next HQ.out (fun _ _ x => x) (fun _ _ x => x)).next hk9 (fun _ _ x => x) (fun _ _ x => x))
          clear hk9
          go_wp2_with (at_builtin; refine stopAt ?_; intro q hq)
          go_ret
          exact ⟨by rfl, K9.out⟩
end Go.Proofs.Ytndlliekdookaaa
