/- The program's disk: Crash. Conditions: as the contract names them. -/
import Derived.Test.YtenijbngmdaakaaDisk
namespace Go.Proofs.Ytenijbngmdaakaa
open Go.RowKit
open DM

theorem nil_crash (w : World) (s : Value) : Calls Try.prog 13 #[.pointer none, s] w fun e w' => e = .returned (.tuple #[]) ∧ w = w' := by
  go_enter Try.func13, Try.ntmps13
  go_wp2
  exact bodyPost_ret (results_none rfl _ _ _) rfl ⟨rfl, rfl⟩

def intsV (l : List Int) : List Value := l.map (Value.int .i64)
theorem intsV_length (l : List Int) : (intsV l).length = l.length := by simp [intsV]

/-- What the loop keeps: the row 'now' has what was torn so far. -/
structure CrashRel (D : Dk) (ks : List Int) (wS : World) (vn : Value) (k : Nat) (wr : World) : Prop where
  keep : Keep (fun i => vn.ownBlock = some i) wS wr
  row : Row wr 64 32 vn D.safe.length (bytesV (tear D.safe (D.waits.take k) ks).flatten)

set_option maxHeartbeats 1600000 in
theorem crash_any (w : World) (b : Nat) (F : Nat → Prop) (D : Dk) (ao : Option Addr) (n c : Nat) (ks : List Int) (hD : DiskAt w b F D) (hsrc : Cells w ao n 1 (intsV ks))
    (hap : 0 < n → ∀ x, ao = some x → ¬ F x.block) (hn : n ≤ 9223372036854775807) (hwf : ∀ z ∈ ks, -9223372036854775808 ≤ z ∧ z ≤ 9223372036854775807) (hfew : D.waits.length ≤ 1000000) :
    Calls Try.prog 13 #[.pointer (some ⟨b, 0, none⟩), .slice ao n c] w fun e w' => e = .returned (.tuple #[]) ∧ DiskTo b F w (DM.crash D ks) w' := by
  obtain ⟨vs1, vn1, vw1, hI1⟩ := hD
  have Hok : Hid (Ok (DM.crash D ks)) := hid (hI1.ok.crash ks)
  have hpos := hI1.ok.pos
  have hkl : ks.length = n := by have := hsrc.1; rw [intsV_length] at this; omega
  have hh1 := hI1.head
  unfold diskCells at hh1
  obtain ⟨g0, cap0, cur0, fz0, rfl, hg0, hfz0, hn0, hc0, hz0, ht0⟩ := hI1.safe.some hpos
  obtain ⟨g1, cap1, cur1, fz1, rfl, hg1, hfz1, hn1, hc1, hz1, ht1⟩ := hI1.now.some hpos
  obtain ⟨i0, i1, i2, i3, i4, i5, if1, ib1⟩ := cells6 hh1
  obtain ⟨adw, capw, rfl, hwcap, hwmax, hwnil, hwad⟩ := hI1.waits.form
  have hnl : (bytesV D.safe.flatten).length = D.safe.length * 32 := hI1.safe.len
  have hcp := run_copy (P := Try.prog) (w := w.drew) (sT := 59) (ty := 3) ty_sectors g1 0 D.safe.length cap1 cur1 64 fz1 hg1 hfz1 (some ⟨g0, 0, none⟩) D.safe.length cap0 (bytesV D.safe.flatten) _ (Nat.min_self _)
      (Cells.of_row (hI1.safe.keep (Keep.refl (fun _ => False) w).drew (fun _ _ x => x))) (by rw [hnl, hz1]; omega) (bytesV_one _)
  have hr2 : Row (w.drew.setRow g1 (splice cur1.toList 0 (bytesV D.safe.flatten)).toArray) 64 32 (.slice (some ⟨g1, 0, none⟩) D.safe.length cap1) D.safe.length (bytesV D.safe.flatten) := by
      have h := Row.spliced (w := w.drew) (hI1.now.keep (Keep.refl (fun _ => False) w).drew (fun _ _ x => x)) hg1 0 (bytesV D.safe.flatten) (by omega)
      rwa [splice_all (bytesV (DM.now D).flatten) _ (by rw [hnl, hI1.now.len])] at h
  have hgb : g1 ≠ b := (hI1.foot.now g1 rfl).2.1
  have hk2 : Keep (fun k => k = g1) w (w.drew.setRow g1 (splice cur1.toList 0 (bytesV D.safe.flatten)).toArray) := by refine Keep.setRow (Keep.refl _ _).drew (.inl ?_) _; rfl
  have Hr2 := hid hr2
  have Hk2 := hid hk2
  have Hcp := hid hcp
  have HI1 := hid hI1
  have Hh1 := hid hh1
  have Hhw := hid hwad
  have Hnil := hid hwnil
  clear hr2 hk2 hcp hI1 hh1 hg0 hfz0 hz0 ht0 hg1 hfz1 hz1 ht1 hnl hwad hwnil
  go_enter Try.func13, Try.ntmps13
  go_wp2_with (at_builtin; refine stopAt ?_; intro q hq)
  refine wp_region_canon [] (by kernel_rfl) (by kernel_rfl) ?_
  repeat (first | (apply wpC_pure (by rfl); (intro K w'; go_simp; exact id)) | (apply wpC_load (by rfl); (intro K; go_simp; exact id)))
  refine wpC_act (by rfl) (by rfl) (fun K hK => ?_)
  go_simp
  rw [Hcp.out]
  go_simp
  refine hK _ _ ?_
  clear hK K
  obtain ⟨w2, hw2⟩ : ∃ w2, w2 = w.drew.setRow g1 (splice cur1.toList 0 (bytesV D.safe.flatten)).toArray := ⟨_, rfl⟩
  have hr2 := Hr2.out
  have hk2 := Hk2.out
  rw [← hw2] at hr2 hk2 ⊢
  clear Hr2 Hk2 Hcp hw2 i0 i1 i2 i3 i4 i5 if1 ib1
  have hh2 := hk2.get Hh1.out (fun e => hgb e.symm)
  obtain ⟨i0, i1, i2, i3, i4, i5, if1, ib1⟩ := cells6 hh2
  have Hh2 := hid hh2
  have Hr2 := hid hr2
  have Hk2 := hid hk2
  clear hh2 hr2 hk2
  refine wpC_nil ?_
  go_wp2_with (at_builtin; refine stopAt ?_; intro q hq)
  clear i0 i1 i2 i3 i4 i5 if1 ib1
  go_loopw [22] (fun v wr => ∃ k : Nat, k ≤ D.waits.length ∧ v = .int .i64 k ∧ Hid (CrashRel D ks w2 (.slice (some ⟨g1, 0, none⟩) D.safe.length cap1) k wr)) (fun v _ => D.waits.length - (intOf v).toNat)
  case atStart => exact ⟨0, Nat.zero_le _, rfl, hid ⟨Keep.refl _ _, by simpa [tear] using Hr2.out⟩⟩
  case round =>
    obtain ⟨k, hk, rfl, HR⟩ := hrel
    have hrr := HR.out.row
    have hkr := HR.out.keep
    have kwr : Keep (fun i => i = g1) w wr := Hk2.out.next hkr (fun _ _ x => x) (fun i _ x => by simpa [Value.ownBlock] using x.symm)
    have hhr := hkr.get Hh2.out (fun e => hgb (by simpa [Value.ownBlock] using e))
    obtain ⟨i0, i1, i2, i3, i4, i5, if1, ib1⟩ := cells6 hhr
    have hwr : Row wr 66 33 (.slice adw D.waits.length capw) D.waits.length (waitsV D.waits) :=
      HI1.out.waits.keep kwr fun k e x => (HI1.out.foot.waits k e).2.2.2 (by rw [x]; rfl)
    by_cases hlt : k < D.waits.length
    · obtain ⟨gw, capw', curw, fzw, hvw, hgw, hfzw, -⟩ := hwr.some (by omega)
      simp only [Value.slice.injEq] at hvw
      obtain ⟨rfl, -, rfl⟩ := hvw
      have hpl := (HI1.out.ok.waits _ (List.getElem_mem hlt)).2
      have hcell : ∀ j u, (waitV D.waits[k])[j]? = some u → wr.cell? ⟨gw, k * 33 + j, none⟩ = some u := by
        intro j u hu
        have hj : j < 33 := by have := (List.getElem?_eq_some_iff.1 hu).1; simp [waitV, bytesV_length, hpl] at this; omega
        rw [hwr.cell _ (by omega), waitsV_get D.waits (fun p hp => (HI1.out.ok.waits p hp).2) k hlt j hj]
        exact hu
      clear hgw hfzw hrr hkr hhr
      have Hwr := hid hwr
      have Hcell := hid hcell
      have Kwr := hid kwr
      clear hwr hcell kwr
      go_wp2_with (first | (at_builtin; refine stopAt ?_; intro q hq) | (refine stopOp (.load 66 _) rfl ?_; intro q hq) | (refine stopOp (.alloc _) rfl ?_; intro q hq) | (refine stopOp (.store 66 _ _) rfl ?_; intro q hq))
      (refine hq.out ?_; clear hq q)
      have hwl : (waitV D.waits[k]).length = 33 := by simp [waitV, bytesV_length, hpl]
      have Hwl := hid hwl
      clear hwl
      refine wpList_plain rfl (fun K hK => ?_)
      refine wp_load_at 66 (.tmp 25) rfl gw (k * 33) rfl (waitV D.waits[k]) Hcell.out _ Try.underlying66 rfl (by rw [Hwl.out]; kernel_rfl) ?_
      refine hK _ _ ?_
      clear hK K
      go_wp2_with (first | (at_builtin; refine stopAt ?_; intro q hq) | (refine stopOp (.alloc _) rfl ?_; intro q hq) | (refine stopOp (.store 66 _ _) rfl ?_; intro q hq))
      (refine hq.out ?_; clear hq q)
      refine wpList_plain rfl (fun K hK => ?_)
      refine wp_alloc 66 rfl waitZero (by kernel_rfl) ?_
      refine hK _ _ ?_
      clear hK K
      have hgn := heap_alloc_new wr (.cells waitZero.cells 66)
      have hkA : Keep (fun _ => False) wr (wr.alloc (.cells waitZero.cells 66)) := (Keep.refl _ _).alloc _
      obtain ⟨wA, hwA⟩ : ∃ wA, wA = wr.alloc (.cells waitZero.cells 66) := ⟨_, rfl⟩
      rw [← hwA] at hgn hkA ⊢
      clear hwA
      have Hgn := hid hgn
      clear hgn
      go_wp2_with (first | (at_builtin; refine stopAt ?_; intro q hq) | (refine stopOp (.store 66 _ _) rfl ?_; intro q hq))
      (refine hq.out ?_; clear hq q)
      refine wpList_plain rfl (fun K hK => ?_)
      have hgn := Hgn.out
      refine wp_store_row 66 (.tmp 5) (.tmp 26) rfl wr.heap.size rfl (waitV D.waits[k]) rfl 66 waitZero.cells (0, 0) hgn (Free.zero _) (by rw [Hwl.out]; rfl) (by
        intro u hu; simp only [waitV, List.mem_cons] at hu; rcases hu with rfl | hu; rfl; exact bytesV_one _ u hu) (by rw [Hwl.out]; kernel_rfl) ?_
      refine hK _ _ ?_
      clear hK K
      have hg3 := setRow_heap _ wr.heap.size _ (waitV D.waits[k]).toArray _ _ hgn
      have hk3 : Keep (fun _ => False) wr (wA.setRow wr.heap.size (waitV D.waits[k]).toArray) := by
        refine Keep.setRow hkA (.inr ?_) _
        exact Nat.le_refl _
      obtain ⟨w3, hw3⟩ : ∃ w3, w3 = wA.setRow wr.heap.size (waitV D.waits[k]).toArray := ⟨_, rfl⟩
      rw [← hw3] at hg3 hk3 ⊢
      clear hw3 hgn Hgn hkA i0 i1 i2 i3 i4 i5 if1 ib1
      have hh3 := hk3.get (HR.out.keep.get Hh2.out (fun e => hgb (by simpa [Value.ownBlock] using e))) id
      obtain ⟨i0, i1, i2, i3, i4, i5, if1, ib1⟩ := cells6 hh3
      have Hh3 := hid hh3
      have f0 : w3.cell? ⟨wr.heap.size, 0, none⟩ = some (.int .i64 (D.waits[k].1 : Int)) := by rw [cell_of_row _ _ _ _ _ _ hg3]; simp [waitV]
      have Hg3 := hid hg3
      clear hh3 hg3
      have hgr : wr.heap.size < w3.heap.size := heap_lt Hg3.out
      by_cases hkn : k < n
      · have hkk : (intsV ks)[k]? = some (.int .i64 (ks[k]'(by omega))) := by simp [intsV, show k < ks.length by omega]
        have hpk := (HI1.out.ok.waits _ (List.getElem_mem hlt)).1
        have hpos' := HI1.out.ok.few
        obtain ⟨ad, had, hadc⟩ := hsrc.2 (by omega)
        subst had
        have hadF := hap (by omega) _ rfl
        have hkc : w3.cell? (ad.add k) = some (.int .i64 (ks[k]'(by omega))) := by
          have hb : (ad.add k).block = ad.block := by unfold Addr.add; split <;> rfl
          have h1 := hadc k _ hkk
          have hlt1 := World.block_lt_of_cell? w _ h1
          rw [← h1]
          refine World.cell?_of_block ?_
          rw [hk3.block _ (Nat.lt_of_lt_of_le hlt1 Kwr.out.size) id, Kwr.out.block _ hlt1 (fun e => hadF (by rw [← hb, e]; exact (HI1.out.foot.now g1 rfl).1))]
        have hzb : -9223372036854775808 ≤ ks[k]'(by omega) ∧ ks[k]'(by omega) ≤ 9223372036854775807 := hwf _ (List.getElem_mem (by omega))
        obtain ⟨z, hz⟩ : ∃ z, z = ks[k]'(by omega) := ⟨_, rfl⟩
        rw [← hz] at hkc hzb
        have Hz := hid hz
        obtain ⟨p, hp⟩ : ∃ p, p = D.waits[k] := ⟨_, rfl⟩
        rw [← hp] at f0 hpk hpl Hg3 ⊢
        have Hp := hid hp
        clear hz hp hadc hkk Hcell hadF
        go_wp2_with (at_builtin; refine stopAt ?_; intro q hq)
        refine wp_region_canon [] (by kernel_rfl) (by kernel_rfl) ?_
        repeat (first | (apply wpC_pure (by rfl); (intro K w'; go_simp; exact id)) | (apply wpC_load (by rfl); (intro K; go_simp; exact id)))
        have ecl : (if 32 < (if z < 0 then 0 else z) then 32 else if z < 0 then 0 else z) = ((clamp z : Nat) : Int) := by unfold clamp; split <;> split <;> omega
        rw [ecl]
        have hcl := clamp_le z
        obtain ⟨m, hm⟩ : ∃ m, m = clamp z := ⟨_, rfl⟩
        rw [← hm] at hcl ⊢
        have Hm := hid hm
        clear hm ecl
        have hsl := fun w' => run_sliceAt_hi (P := Try.prog) Try.underlying64 (by kernel_rfl) wr.heap.size 1 .i64 m hcl w'
        repeat (apply wpC_pure (by rfl); (intro K w'; go_simp; exact id))
        clear hsl
        have hrr := HR.out.row.keep (hk3.drew) (fun _ _ x => x)
        obtain ⟨g1', cap1', cur', fz', hv', hg', hfz', -, -, hz', -⟩ := hrr.some hpos
        simp only [Value.slice.injEq, Option.some.injEq, Addr.mk.injEq] at hv'
        obtain ⟨⟨rfl, -, -⟩, -, rfl⟩ := hv'
        have hsr : Cells w3.drew (some ⟨wr.heap.size, 1, none⟩) m 1 (bytesV (p.2.take m)) := by
          refine ⟨by rw [bytesV_length, List.length_take]; omega, fun _ => ⟨_, rfl, fun j u hu => ?_⟩⟩
          rw [addr_add]
          show w3.cell? ⟨wr.heap.size, 1 + j, none⟩ = some u
          rw [cell_of_row _ _ _ _ _ _ Hg3.out]
          have hj : j < m := by have := (List.getElem?_eq_some_iff.1 hu).1; rw [bytesV_length, List.length_take] at this; omega
          rw [← hu, Nat.add_comm]
          simp [waitV, bytesV, hj]
        have hTl : (tear D.safe (D.waits.take k) ks).length = D.safe.length := tear_length _ _ _
        have hT32 : ∀ x ∈ tear D.safe (D.waits.take k) ks, x.length = 32 := tear_len32 _ _ _ HI1.out.ok.safe fun q hq => HI1.out.ok.waits q (List.mem_of_mem_take hq)
        have hfl : (bytesV (p.2.take m)).length = m := by rw [bytesV_length, List.length_take]; omega
        have hcp := run_copy (P := Try.prog) (w := w3.drew) (sT := 22) (ty := 3) ty_bytes g1 (p.1 * 32) 32 32 cur' 64 fz' hg' hfz' (some ⟨wr.heap.size, 1, none⟩) m 32 (bytesV (p.2.take m)) m (by omega) hsr (by rw [hfl, hz']; omega) (bytesV_one _)
        have hr4 := Row.spliced hrr hg' (p.1 * 32) (bytesV (p.2.take m)) (by omega)
        have hk4 : Keep (fun k => k = g1) wr (w3.drew.setRow g1 (splice cur'.toList (p.1 * 32) (bytesV (p.2.take m))).toArray) := by
          refine Keep.setRow (hk3.drew.mono (fun _ _ x => x.elim)) (.inl ?_) _; rfl
        rw [splice_bytes, List.length_take, hpl, Nat.min_eq_left hcl, Hm.out, ← torn_flat _ _ _ hT32 hpl (by omega)] at hr4
        refine wpC_act (by rfl) (by rfl) (fun K hK => ?_)
        go_simp
        refine hK _ _ ?_
        clear hK K hcp
        obtain ⟨w4, hw4⟩ : ∃ w4, w4 = w3.drew.setRow g1 (splice cur'.toList (p.1 * 32) (bytesV (p.2.take m))).toArray := ⟨_, rfl⟩
        have hr4' : Row w4 64 32 (.slice (some ⟨g1, 0, none⟩) D.safe.length cap1) D.safe.length (bytesV (torn (tear D.safe (D.waits.take k) ks) p z).flatten) := by rw [hw4, Hm.out]; exact hr4
        rw [← hw4] at hk4 ⊢
        clear hw4 hr4 hrr hg' hz' hfz' hsr hTl hT32 hfl
        have Hr4 := hid hr4'
        have Hk4 := hid hk4
        clear hr4' hk4 i0 i1 i2 i3 i4 i5 if1 ib1
        refine wpC_nil ?_
        go_wp2_with (at_builtin; refine stopAt ?_; intro q hq)
        go_roundw
        case rel =>
          refine ⟨k + 1, by omega, by go_num, hid ⟨HR.out.keep.next Hk4.out (fun _ _ x => x) (fun i _ x => by subst x; rfl), ?_⟩⟩
          rw [tear_take _ _ _ _ hlt, dif_pos (by omega : k < ks.length), ← Hz.out, ← Hp.out]
          exact Hr4.out
        case measure => simp [intOf]; omega
      · go_wp2_with (at_builtin; refine stopAt ?_; intro q hq)
        go_roundw
        case rel =>
          refine ⟨k + 1, by omega, by go_num, hid ⟨HR.out.keep.next hk3 (fun _ _ x => x) (fun i _ x => x.elim), ?_⟩⟩
          rw [tear_take _ _ _ _ hlt, dif_neg (by omega : ¬ k < ks.length)]
          exact HR.out.row.keep hk3 (fun _ _ x => x)
        case measure => simp [intOf]; omega
    · obtain rfl : k = D.waits.length := by omega
      rw [List.take_length] at hrr
      have hTl : (tear D.safe D.waits ks).length = D.safe.length := tear_length _ _ _
      have hsr := HI1.out.safe.keep kwr (fun k e x => by subst x; exact (HI1.out.foot.now k rfl).2.2 e)
      obtain ⟨g0', cap0', cur', fz', hv', hg', hfz', -, -, hz', -⟩ := hsr.some hpos
      simp only [Value.slice.injEq, Option.some.injEq, Addr.mk.injEq] at hv'
      obtain ⟨⟨rfl, -, -⟩, -, rfl⟩ := hv'
      have hnl := hrr.len
      have hcp := run_copy (P := Try.prog) (w := wr.drew) (sT := 59) (ty := 3) ty_sectors g0 0 D.safe.length cap0 cur' 64 fz' hg' hfz' (some ⟨g1, 0, none⟩) D.safe.length cap1 (bytesV (tear D.safe D.waits ks).flatten) _ (Nat.min_self _)
        (Cells.of_row (hrr.keep (Keep.refl (fun _ => False) wr).drew (fun _ _ x => x))) (by rw [hnl, hz']; omega) (bytesV_one _)
      have hr3 : Row (wr.drew.setRow g0 (splice cur'.toList 0 (bytesV (tear D.safe D.waits ks).flatten)).toArray) 64 32 (.slice (some ⟨g0, 0, none⟩) D.safe.length cap0) D.safe.length (bytesV (tear D.safe D.waits ks).flatten) := by
        have h := Row.spliced (w := wr.drew) (hsr.keep (Keep.refl (fun _ => False) wr).drew (fun _ _ x => x)) hg' 0 (bytesV (tear D.safe D.waits ks).flatten) (by omega)
        rwa [splice_all (bytesV D.safe.flatten) _ (by rw [hnl, hsr.len])] at h
      have hk3 : Keep (fun k => k = g0) wr (wr.drew.setRow g0 (splice cur'.toList 0 (bytesV (tear D.safe D.waits ks).flatten)).toArray) := by refine Keep.setRow (Keep.refl _ _).drew (.inl ?_) _; rfl
      have Hr3 := hid hr3
      have Hk3 := hid hk3
      have Hhr := hid hhr
      have Hrr := hid hrr
      have Hkr := hid hkr
      have Kwr := hid kwr
      clear hr3 hk3 hhr hrr hkr kwr hsr hg' hfz' hz' hnl hwr
      go_wp2_with (at_builtin; refine stopAt ?_; intro q hq)
      refine wp_region_canon [] (by kernel_rfl) (by kernel_rfl) ?_
      repeat (first | (apply wpC_pure (by rfl); (intro K w'; go_simp; exact id)) | (apply wpC_load (by rfl); (intro K; go_simp; exact id)))
      refine wpC_act (by rfl) (by rfl) (fun K hK => ?_)
      go_simp
      refine hK _ _ ?_
      clear hK K hcp
      obtain ⟨w3, hw3⟩ : ∃ w3, w3 = wr.drew.setRow g0 (splice cur'.toList 0 (bytesV (tear D.safe D.waits ks).flatten)).toArray := ⟨_, rfl⟩
      have hr3 := Hr3.out
      have hk3 := Hk3.out
      rw [← hw3] at hr3 hk3 ⊢
      clear Hr3 Hk3 hw3 i0 i1 i2 i3 i4 i5 if1 ib1
      have hgb0 : g0 ≠ b := (HI1.out.foot.safe g0 rfl).2
      have hh3 := hk3.get Hhr.out (fun e => hgb0 e.symm)
      obtain ⟨i0, i1, i2, i3, i4, i5, if1, ib1⟩ := cells6 hh3
      have Hh3 := hid hh3
      have Hr3 := hid hr3
      have Hk3 := hid hk3
      clear hh3 hr3 hk3
      refine wpC_nil ?_
      go_wp2_with (at_builtin; refine stopAt ?_; intro q hq)
      go_end0
      refine ⟨rfl, ?_⟩
      clear i0 i1 i2 i3 i4 i5 if1 ib1
      have hk4 : Keep (fun k => k = b) w3 ((((w3.setCell ⟨b, 2, none⟩ (.slice none 0 0)).setCell ⟨b, 3, none⟩ (.bool false)).setCell ⟨b, 4, none⟩ (.int .i64 0)).setCell ⟨b, 5, none⟩ (.bool false)) := by
        refine Keep.setCell (Keep.setCell (Keep.setCell (Keep.setCell (Keep.refl _ _) (.inl ?_) _) (.inl ?_) _) (.inl ?_) _) (.inl ?_) _ <;> rfl
      have hh4 := heap_setCell6 (heap_setCell6 (heap_setCell6 (heap_setCell6 Hh3.out 2 (.slice none 0 0)) 3 (.bool false)) 4 (.int .i64 0)) 5 (.bool false)
      obtain ⟨w4, hw4⟩ : ∃ w4, w4 = (((w3.setCell ⟨b, 2, none⟩ (.slice none 0 0)).setCell ⟨b, 3, none⟩ (.bool false)).setCell ⟨b, 4, none⟩ (.int .i64 0)).setCell ⟨b, 5, none⟩ (.bool false) := ⟨_, rfl⟩
      rw [← hw4] at hk4 hh4 ⊢
      clear hw4
      have hf1 := HI1.out.foot
      have kz : Keep (fun k => k = g0 ∨ k = b) wr w4 := Hk3.out.next hk4 (fun _ _ x => .inl x) (fun _ _ x => .inr x)
      have ks' : Keep (fun k => k = g1 ∨ k = g0 ∨ k = b) w w4 := Kwr.out.next kz (fun _ _ x => .inl x) (fun _ _ x => .inr x)
      refine DiskIs.to (vs := .slice (some ⟨g0, 0, none⟩) D.safe.length cap0) (vn := .slice (some ⟨g1, 0, none⟩) D.safe.length cap1) (vw := .slice none 0 0) ?_ (ks'.mono fun k hk x => ?_)
      · refine ⟨by rw [hh4]; rfl, ?_, ?_, Row.nil _ _ _, ⟨hf1.self, hf1.safe, hf1.now, fun k e => by simp [Value.ownBlock] at e, fun k hF => Nat.lt_of_lt_of_le (hf1.lt k hF) ks'.size⟩, Hok.out⟩
        · show Row w4 _ 32 _ (tear D.safe D.waits ks).length (bytesV (tear D.safe D.waits ks).flatten)
          rw [hTl]
          exact Hr3.out.keep hk4 fun k e x => (hf1.safe k e).2 x
        · show Row w4 _ 32 _ (tear D.safe D.waits ks).length (bytesV (tear D.safe D.waits ks).flatten)
          rw [hTl]
          exact Hrr.out.keep kz fun k e x => by
            rcases x with x | x
            · subst x; exact (hf1.now k e).2.2 rfl
            · exact (hf1.now k e).2.1 x
      · rcases x with x | x | x
        · subst x; exact (hf1.now _ rfl).1
        · subst x; exact (hf1.safe _ rfl).1
        · subst x; exact hf1.self

end Go.Proofs.Ytenijbngmdaakaa
