/- The program's disk: Sync and Read. Conditions: as the contracts name them. -/
import Derived.Test.YtenijbngmdaakaaDisk
namespace Go.Proofs.Ytenijbngmdaakaa
open Go.RowKit
open DM

theorem nil_sync (w : World) : Calls Try.prog 12 #[.pointer none] w fun e w' => e = .returned (.int .i64 1) ∧ w = w' := by
  go_enter Try.func12, Try.ntmps12
  go_wp2
  go_ret
  exact ⟨rfl, rfl⟩

theorem nil_read (w : World) (at_ : Int) : Calls Try.prog 14 #[.pointer none, .int .i64 at_] w fun e w' => e = .returned (.tuple #[.slice none 0 0, .int .i64 1]) ∧ w = w' := by
  go_enter Try.func14, Try.ntmps14
  go_wp2
  go_ret2
  exact ⟨rfl, rfl⟩

set_option maxHeartbeats 800000 in
theorem sync_any (w : World) (b : Nat) (F : Nat → Prop) (D : Dk) (hD : DiskAt w b F D) (hfew : D.waits.length ≤ 1000000) :
    Calls Try.prog 12 #[.pointer (some ⟨b, 0, none⟩)] w fun e w' => e = .returned (.int .i64 (DM.sync D).1) ∧ DiskTo b F w (DM.sync D).2 w' := by
  cases ha : (act D).1 with
  | false =>
    have hw : DM.sync D = (6, (act D).2) := by unfold DM.sync; simp [ha]
    have Hw := hid hw
    clear hw
    go_enter Try.func12, Try.ntmps12
    go_wp2_with fail
    refine (act_any w b F D hD).mono ?_
    rintro e w1 ⟨rfl, hto⟩
    go_wp2
    go_ret
    exact ⟨by rw [Hw.out]; rfl, by rw [Hw.out]; exact hto⟩
  | true =>
    have hw : DM.sync D = (0, { (act D).2 with safe := DM.now (act D).2, waits := [] }) := by unfold DM.sync; simp [ha]
    have Hw := hid hw
    have Hok : Hid (Ok (DM.sync D).2) := hid (hD.ok.sync)
    clear hw
    go_enter Try.func12, Try.ntmps12
    go_wp2_with fail
    refine (act_any w b F D hD).mono ?_
    rintro e w1 ⟨rfl, F1, ⟨vs1, vn1, vw1, hI1⟩, hk1, hF1⟩
    have hpos : 0 < (act D).2.safe.length := by rw [act_safe]; exact hD.ok.pos
    obtain ⟨D1, hD1⟩ : ∃ D1, D1 = (act D).2 := ⟨_, rfl⟩
    rw [← hD1] at hI1 hpos
    have hwl : D1.waits.length ≤ 1000000 := by rw [hD1, act_waits]; exact hfew
    have HD1 := hid hD1
    clear hD1
    have hh1 := hI1.head
    unfold diskCells at hh1
    obtain ⟨g0, cap0, cur0, fz0, rfl, hg0, hfz0, hn0, hc0, hz0, ht0⟩ := hI1.safe.some hpos
    obtain ⟨g1, cap1, cur1, fz1, rfl, hg1, hfz1, hn1, hc1, hz1, ht1⟩ := hI1.now.some hpos
    obtain ⟨i0, i1, i2, i3, i4, i5, if1, ib1⟩ := cells6 hh1
    obtain ⟨adw, capw, rfl, hwcap, hwmax, hwnil, hwad⟩ := hI1.waits.form
    have hnl : (bytesV (DM.now D1).flatten).length = D1.safe.length * 32 := hI1.now.len
    have hcp := run_copy (P := Try.prog) (w := w1.drew) (sT := 59) (ty := 3) ty_sectors g0 0 D1.safe.length cap0 cur0 64 fz0 hg0 hfz0 (some ⟨g1, 0, none⟩) D1.safe.length cap1 (bytesV (DM.now D1).flatten) _ (Nat.min_self _)
      (Cells.of_row (hI1.now.keep (Keep.refl (fun _ => False) w1).drew (fun _ _ x => x))) (by rw [hnl, hz0]; omega) (bytesV_one _)
    have hr2 : Row (w1.drew.setRow g0 (splice cur0.toList 0 (bytesV (DM.now D1).flatten)).toArray) 64 32 (.slice (some ⟨g0, 0, none⟩) D1.safe.length cap0) D1.safe.length (bytesV (DM.now D1).flatten) := by
      have h := Row.spliced (w := w1.drew) (hI1.safe.keep (Keep.refl (fun _ => False) w1).drew (fun _ _ x => x)) hg0 0 (bytesV (DM.now D1).flatten) (by omega)
      rwa [splice_all (bytesV D1.safe.flatten) _ (by rw [hnl, hI1.safe.len])] at h
    have hgb : g0 ≠ b := (hI1.foot.safe g0 rfl).2
    have hk2 : Keep (fun k => k = g0) w1 (w1.drew.setRow g0 (splice cur0.toList 0 (bytesV (DM.now D1).flatten)).toArray) := by refine Keep.setRow (Keep.refl _ _).drew (.inl ?_) _; rfl
    have Hr2 := hid hr2
    have Hk2 := hid hk2
    have Hcp := hid hcp
    have HI1 := hid hI1
    have Hh1 := hid hh1
    have Hhw := hid hwad
    clear hr2 hk2 hcp hI1 hh1 hg0 hfz0 hz0 ht0 hg1 hfz1 hz1 ht1 hnl hwad
    go_wp2_with fail
    refine wp_region_canon [] (by kernel_rfl) (by kernel_rfl) ?_
    repeat (first | (apply wpC_pure (by rfl); (intro K w'; go_simp; exact id)) | (apply wpC_load (by rfl); (intro K; go_simp; exact id)))
    refine wpC_act (by rfl) (by rfl) (fun K hK => ?_)
    go_simp
    rw [Hcp.out]
    go_simp
    refine hK _ _ ?_
    clear hK K
    obtain ⟨w2, hw2⟩ : ∃ w2, w2 = w1.drew.setRow g0 (splice cur0.toList 0 (bytesV (DM.now D1).flatten)).toArray := ⟨_, rfl⟩
    have hr2 := Hr2.out
    have hk2 := Hk2.out
    rw [← hw2] at hr2 hk2 ⊢
    clear Hr2 Hk2 Hcp hw2 i0 i1 i2 i3 i4 i5 if1 ib1
    have hh2 := hk2.get Hh1.out (fun e => hgb e.symm)
    obtain ⟨i0, i1, i2, i3, i4, i5, if1, ib1⟩ := cells6 hh2
    have Hh2 := hid hh2
    have Hr2 := hid hr2
    clear hh2 hr2
    refine wpC_nil ?_
    go_wp2_with fail
    have hrw : Row w2 66 33 (.slice adw D1.waits.length capw) D1.waits.length (waitsV D1.waits) :=
      HI1.out.waits.keep hk2 fun k e x => (HI1.out.foot.waits k e).2.2.1 (by rw [x]; rfl)
    obtain ⟨w3, ys, hcl, hr3, hk3⟩ := run_clear (P := Try.prog) (ty := 0) ty_waits (by decide) hrw
    rw [hcl]
    clear hcl i0 i1 i2 i3 i4 i5 if1 ib1
    have hh3 := hk3.get Hh2.out (fun e => (HI1.out.foot.waits _ e).2.1 rfl)
    obtain ⟨i0, i1, i2, i3, i4, i5, if1, ib1⟩ := cells6 hh3
    have Hh3 := hid hh3
    have Hr3 := hid hr3
    have Hrw := hid hrw
    clear hh3 hr3 hrw
    go_wp2_with fail
    go_ret
    refine ⟨by rw [Hw.out]; rfl, ?_⟩
    have hok := Hok.out
    rw [Hw.out] at hok ⊢
    rw [← HD1.out] at hok ⊢
    clear i0 i1 i2 i3 i4 i5 if1 ib1
    have hk4 : Keep (fun k => k = b) w3 (w3.setCell ⟨b, 2, none⟩ (.slice adw 0 capw)) := by refine Keep.setCell (Keep.refl _ _) (.inl ?_) _; rfl
    have hh4 := heap_setCell6 Hh3.out 2 (.slice adw 0 capw)
    obtain ⟨w4, hw4⟩ : ∃ w4, w4 = w3.setCell ⟨b, 2, none⟩ (.slice adw 0 capw) := ⟨_, rfl⟩
    rw [← hw4] at hk4 hh4 ⊢
    clear hw4
    have hf1 := HI1.out.foot
    have kz : Keep (fun k => (Value.slice adw D1.waits.length capw).ownBlock = some k ∨ k = b) w2 w4 := hk3.next hk4 (fun _ _ x => .inl x) (fun _ _ x => .inr x)
    have ks : Keep (fun k => k = g0 ∨ (Value.slice adw D1.waits.length capw).ownBlock = some k ∨ k = b) w1 w4 := hk2.next kz (fun _ _ x => .inl x) (fun _ _ x => .inr x)
    have hnl : (DM.now D1).length = D1.safe.length := now_length _
    refine ⟨F1, ⟨.slice (some ⟨g0, 0, none⟩) D1.safe.length cap0, .slice (some ⟨g1, 0, none⟩) D1.safe.length cap1, .slice adw 0 capw, ?_⟩, ?_, hF1⟩
    · refine ⟨by rw [hh4]; rfl, ?_, ?_, ?_, ⟨hf1.self, hf1.safe, hf1.now, fun k e => hf1.waits k (by rw [← e]; exact ownBlock_len _ _ _ _), fun k hF => Nat.lt_of_lt_of_le (hf1.lt k hF) ks.size⟩, hok⟩
      · show Row w4 _ 32 _ (DM.now D1).length _
        rw [hnl]
        exact Hr2.out.keep kz fun k e x => by
          rcases x with x | x
          · exact (hf1.waits k x).2.2.1 e
          · exact (hf1.safe k e).2 x
      · show Row w4 _ 32 _ (DM.now D1).length (bytesV (DM.now D1).flatten)
        rw [hnl]
        exact HI1.out.now.keep ks fun k e x => by
          rcases x with x | x | x
          · subst x; exact (hf1.now k e).2.2 rfl
          · exact (hf1.waits k x).2.2.2 e
          · exact (hf1.now k e).2.1 x
      · have h5 := (Hr3.out.keep hk4 fun k e x => (hf1.waits k e).2.1 x).cut 0 (Nat.zero_le _)
        simpa [waitsV] using h5
    · refine hk1.next ks (fun _ _ x => x) fun k hk x => ?_
      have inF : F1 k → F k := fun h => (hF1 k h).elim id fun h => by omega
      rcases x with x | x | x
      · subst x; exact inF (hf1.safe _ rfl).1
      · exact inF (hf1.waits _ x).1
      · subst x; exact inF hf1.self

set_option maxHeartbeats 800000 in
/-- Read: what the sector has, in memory of the reader's own. -/
theorem read_any (w : World) (b : Nat) (F : Nat → Prop) (D : Dk) (at_ : Int) (hD : DiskAt w b F D) (hlt : at_ < 9223372036854775808) :
    Calls Try.prog 14 #[.pointer (some ⟨b, 0, none⟩), .int .i64 at_] w fun e w' =>
      ∃ v, e = .returned (.tuple #[v, .int .i64 (DM.read D at_).2]) ∧ Row w' 5 1 v (DM.read D at_).1.length (bytesV (DM.read D at_).1) ∧ Keep (fun _ => False) w w' ∧ (∀ k, v.ownBlock = some k → w.heap.size ≤ k) := by
  obtain ⟨vs, vn, vw, hI⟩ := hD
  have hh := hI.head
  unfold diskCells at hh
  obtain ⟨h0, h1, h2, h3, h4, h5, hf, hb⟩ := cells6 hh
  have hpos := hI.ok.pos
  have hfewS := hI.ok.few
  obtain ⟨gn, cap, cur, fz, rfl, hgn, hfz, hncap, hcapm, hcurs, htk⟩ := hI.now.some hpos
  have out : ∀ c, DM.read D at_ = ([], c) → ∀ w', w' = w → ∃ v, Ending.returned (.tuple #[.slice none 0 0, .int .i64 c]) = .returned (.tuple #[v, .int .i64 (DM.read D at_).2]) ∧ Row w' 5 1 v (DM.read D at_).1.length (bytesV (DM.read D at_).1) ∧ Keep (fun _ => False) w w' ∧ (∀ k, v.ownBlock = some k → w.heap.size ≤ k) := by
    rintro c hc w' rfl
    refine ⟨.slice none 0 0, by rw [hc], by rw [hc]; exact Row.nil _ _ _, Keep.refl _ _, by simp [Value.ownBlock]⟩
  have Out := hid out
  clear out
  cases hd : D.down with
  | true =>
    rw [hd] at h5
    have hw : DM.read D at_ = ([], 6) := by unfold DM.read; rw [hd]; rfl
    have Hw := hid hw
    clear hw hh hgn htk
    go_enter Try.func14, Try.ntmps14
    go_wp2
    go_ret2
    exact Out.out _ Hw.out _ rfl
  | false =>
    rw [hd] at h5
    by_cases c1 : at_ < 0
    · have hw : DM.read D at_ = ([], 30) := by unfold DM.read; rw [hd]; simp [c1]
      have Hw := hid hw
      clear hw hh hgn htk
      go_enter Try.func14, Try.ntmps14
      go_wp2
      go_ret2
      exact Out.out _ Hw.out _ rfl
    · by_cases c2 : (D.safe.length : Int) ≤ at_
      · have hw : DM.read D at_ = ([], 30) := by unfold DM.read; rw [hd]; simp [c2]
        have Hw := hid hw
        clear hw hh hgn htk
        go_enter Try.func14, Try.ntmps14
        go_wp2
        go_ret2
        exact Out.out _ Hw.out _ rfl
      · have hw : DM.read D at_ = ((DM.now D).getD at_.toNat [], 0) := by unfold DM.read; rw [hd]; simp [c1, c2]
        have Hw := hid hw
        have HI := hid hI
        have hgn' := hgn
        clear hw hh hgn htk hI Out
        go_enter Try.func14, Try.ntmps14
        go_wp2_with (at_builtin; refine stopAt ?_; intro q hq)
        (refine hq.out ?_; clear hq q)
        have hsecl : ((DM.now D).getD at_.toNat []).length = 32 := by
          have hi : at_.toNat < (DM.now D).length := by rw [now_length]; omega
          have := HI.out.ok.now _ (List.getElem_mem hi)
          simpa [List.getD, List.getElem?_eq_getElem hi] using this
        have hsec : ∀ j u, (bytesV ((DM.now D).getD at_.toNat []))[j]? = some u → w.cell? ⟨gn, at_.toNat * 32 + j, none⟩ = some u := by
          intro j u hu
          have hj : j < 32 := by have := (List.getElem?_eq_some_iff.1 hu).1; rw [bytesV_length, hsecl] at this; exact this
          rw [HI.out.now.cell _ (by omega), ← hu, ← flat_get _ _ HI.out.ok.now (by rw [now_length]; omega)]
          simp [bytesV, hj, List.getElem?_drop]
        refine wpList_plain rfl (fun K hK => ?_)
        refine wp_append (v := .slice (some ⟨w.heap.size, 0, none⟩) 0 0) (n := 0) ty_bytes (.tmp 26) (.tmp 33) rfl rfl (Row.fresh w 5 1) (some ⟨gn, at_.toNat * 32, none⟩) 32 32 (bytesV ((DM.now D).getD at_.toNat [])) rfl
          ⟨by rw [bytesV_length, hsecl], fun _ => ⟨_, rfl, fun j u hu => by
            rw [addr_add, World.cell?_of_block (Below.heap_alloc w _ _ (heap_lt hgn'))]; exact hsec j u hu⟩⟩ (bytesV_one _) (by decide) (by decide) ?_
        intro v1 w1 hr1 hk1 hv1
        refine hK _ _ ?_
        clear hK K
        have Hr1 := hid hr1
        have Hv1 := hid hv1
        clear hr1 hv1 hsec
        go_wp2_with (at_builtin; refine stopAt ?_; intro q hq)
        go_ret2
        refine ⟨v1, by rw [Hw.out]; rfl, by rw [Hw.out]; show Row w1 _ 1 v1 ((DM.now D).getD at_.toNat []).length _; rw [hsecl]; exact Hr1.out, ?_, ?_⟩
        · exact (((Keep.refl (fun _ => False) w).alloc (.cells #[] 5)).next hk1 (H := fun k => k = w.heap.size) (fun _ _ x => x.elim) (fun k _ x => by simpa [Value.ownBlock] using x.symm)).mono fun k hk x => by omega
        · intro k hk
          rcases Hv1.out with ⟨_, h0⟩ | ⟨k', h1, h2⟩
          · exact absurd h0 (by decide)
          · rw [hk] at h1
            cases h1
            rcases h2 with h2 | h2
            · simp [Value.ownBlock] at h2; omega
            · simp at h2; omega


end Go.Proofs.Ytenijbngmdaakaa
