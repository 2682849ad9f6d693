/- The program's disk: Write. Conditions: as the contract names them. -/
import Derived.Test.YtenijbngmdaakaaDisk
namespace Go.Proofs.Ytenijbngmdaakaa
open Go.RowKit
open DM

theorem nil_write (w : World) (at_ : Int) (s : Value) : Calls Try.prog 11 #[.pointer none, .int .i64 at_, s] w fun e w' => e = .returned (.int .i64 1) ∧ w = w' := by
  go_enter Try.func11, Try.ntmps11
  go_wp2
  go_ret
  exact ⟨rfl, rfl⟩

set_option maxHeartbeats 800000 in
theorem write_any (w : World) (b : Nat) (F : Nat → Prop) (D : Dk) (at_ : Int) (ao : Option Addr) (n c : Nat) (bs : List UInt8) (hD : DiskAt w b F D) (hsrc : Cells w ao n 1 (bytesV bs))
    (hap : 0 < n → ∀ x, ao = some x → ¬ F x.block) (hlt : at_ < 9223372036854775808) (hn : n ≤ 9223372036854775807) (hfew : D.waits.length ≤ 1000000) :
    Calls Try.prog 11 #[.pointer (some ⟨b, 0, none⟩), .int .i64 at_, .slice ao n c] w fun e w' => e = .returned (.int .i64 (DM.write D at_ bs).1) ∧ DiskTo b F w (DM.write D at_ bs).2 w' := by
  obtain ⟨vs, vn, vw, hI⟩ := hD
  have hDat : DiskAt w b F D := ⟨_, _, _, hI⟩
  have hbl : bs.length = n := by have := hsrc.1; rw [bytesV_length] at this; omega
  have hh := hI.head
  unfold diskCells at hh
  obtain ⟨h0, h1, h2, h3, h4, h5, hf, hb⟩ := cells6 hh
  have hpos := hI.ok.pos
  have hfewS := hI.ok.few
  obtain ⟨gn, cap, cur, fz, rfl, hgn, hfz, hncap, hcapm, hcurs, htk⟩ := hI.now.some hpos
  cases hd : D.down with
  | true =>
    rw [hd] at h5
    have hw : DM.write D at_ bs = (6, D) := by unfold DM.write; rw [hd]; rfl
    have Hw := hid hw
    have HI := hid hI
    clear hw hI hh hgn htk hDat
    go_enter Try.func11, Try.ntmps11
    go_wp2
    go_ret
    exact ⟨by rw [Hw.out]; rfl, by rw [Hw.out]; exact HI.out.to (Keep.refl _ _)⟩
  | false =>
    rw [hd] at h5
    have bad : (at_ < 0 ∨ (D.safe.length : Int) ≤ at_ ∨ bs.length ≠ 32) → DM.write D at_ bs = (30, D) := fun h => by unfold DM.write; rw [hd]; simp [h]
    have Bad := hid bad
    clear bad
    by_cases c1 : at_ < 0
    · have HI := hid hI
      clear hI hh hgn htk hDat
      go_enter Try.func11, Try.ntmps11
      go_wp2
      go_ret
      rw [Bad.out (.inl c1)]
      exact ⟨rfl, HI.out.to (Keep.refl _ _)⟩
    · by_cases c2 : (D.safe.length : Int) ≤ at_
      · have HI := hid hI
        clear hI hh hgn htk hDat
        go_enter Try.func11, Try.ntmps11
        go_wp2
        go_ret
        rw [Bad.out (.inr (.inl c2))]
        exact ⟨rfl, HI.out.to (Keep.refl _ _)⟩
      · by_cases c3 : n = 32
        · subst c3
          have hgood : ¬ (at_ < 0 ∨ (D.safe.length : Int) ≤ at_ ∨ bs.length ≠ 32) := by omega
          cases ha : (act D).1 with
          | false =>
            have hw : DM.write D at_ bs = (6, (act D).2) := by unfold DM.write; rw [hd]; simp [hgood, ha]
            have Hw := hid hw
            clear hw hgn htk hI hgood
            go_enter Try.func11, Try.ntmps11
            go_wp2_with fail
            refine (act_any w b F D hDat).mono ?_
            rintro e w1 ⟨rfl, hto⟩
            go_wp2
            go_ret
            exact ⟨by rw [Hw.out]; rfl, by rw [Hw.out]; exact hto⟩
          | true =>
            have hw : DM.write D at_ bs = (0, { (act D).2 with waits := (act D).2.waits ++ [(at_.toNat, bs)] }) := by unfold DM.write; rw [hd]; simp [hgood, ha]
            have Hw := hid hw
            have Hok : Hid (Ok (DM.write D at_ bs).2) := hid (hI.ok.write at_ bs)
            clear hw hgn htk hI hgood
            go_enter Try.func11, Try.ntmps11
            go_wp2_with fail
            refine (act_any w b F D hDat).mono ?_
            rintro e w1 ⟨rfl, F1, ⟨vs1, vn1, vw1, hI1⟩, hk1, hF1⟩
            have hh1 := hI1.head
            unfold diskCells at hh1
            obtain ⟨i0, i1, i2, i3, i4, i5, if1, ib1⟩ := cells6 hh1
            have hs1 := hsrc.keep0 hk1 (fun h => hap (by omega))
            have hr1 := hI1.now
            have hl1 : (act D).2.safe.length = D.safe.length := by rw [act_safe]
            rw [hl1] at hr1
            obtain ⟨g1, cap1, cur1, fz1, rfl, hg1, hfz1, hn1, hc1, hz1, ht1⟩ := hr1.some hpos
            go_wp2_with fail
            have hbs : at_.toNat * 32 + (bytesV bs).length ≤ D.safe.length * 32 := by rw [bytesV_length]; omega
            have hle : D.safe.length * 32 ≤ cur1.size := by rw [hz1]; omega
            have hcp := run_copy (P := Try.prog) (w := w1) (sT := 22) (ty := 3) ty_bytes g1 (at_.toNat * 32) 32 32 cur1 64 fz1 hg1 hfz1 ao 32 c (bytesV bs) 32 rfl hs1 (by omega) (bytesV_one _)
            have hr2 := hr1.spliced hg1 (at_.toNat * 32) (bytesV bs) hbs
            rw [hcp]
            clear hcp
            have hgb : g1 ≠ b := (hI1.foot.now g1 rfl).2.1
            have hk2 : Keep (fun k => k = g1) w1 (w1.setRow g1 (splice cur1.toList (at_.toNat * 32) (bytesV bs)).toArray) := by refine Keep.setRow (Keep.refl _ _) (.inl ?_) _; rfl
            obtain ⟨w2, hw2⟩ : ∃ w2, w2 = w1.setRow g1 (splice cur1.toList (at_.toNat * 32) (bytesV bs)).toArray := ⟨_, rfl⟩
            rw [← hw2] at hr2 hk2 ⊢
            clear hw2 i0 i1 i2 i3 i4 i5 if1 ib1 h0 h1 h2 h3 h4 h5 hf hb
            have hh2 := hk2.get hh1 (fun e => hgb e.symm)
            obtain ⟨i0, i1, i2, i3, i4, i5, if1, ib1⟩ := cells6 hh2
            have hsec : ∀ j u, (bytesV bs)[j]? = some u → w2.cell? ⟨g1, at_.toNat * 32 + j, none⟩ = some u := by
              intro j u hu
              have hj : j < (bytesV bs).length := (List.getElem?_eq_some_iff.1 hu).1
              rw [hr2.cell _ (by omega), splice_get _ _ _ _ (by rw [hr1.len]; omega) hj, hu]
            rw [splice_bytes] at hr2
            have Hr2 := hid hr2
            have Hh2 := hid hh2
            have HI1 := hid hI1
            clear hr2 hh2 hh1 hr1 hg1 hfz1 hz1 ht1 hbs hle hcurs hfz hI1 hl1 hh
            go_wp2_with fail
            refine wp_region_canon [] (by kernel_rfl) (by kernel_rfl) ?_
            repeat (apply wpC_pure (by rfl); (intro K w'; go_simp; exact id))
            (apply wpC_load (by rfl); (intro K; go_simp; exact id))
            repeat (apply wpC_pure (by rfl); (intro K w'; go_simp; exact id))
            (apply wpC_load (by rfl); (intro K; go_simp; exact id))
            repeat (apply wpC_pure (by rfl); (intro K w'; go_simp; exact id))
            apply wpC_load (by rfl)
            · intro K hK
              rw [if_pos (by rfl)]
              refine calm_load_at 64 (.tmp 56) rfl g1 (at_.toNat * 32) rfl (bytesV bs) hsec _ Try.underlying64 rfl (by rw [bytesV_length, hbl]; kernel_rfl) ?_
              revert hK
              go_simp
              exact id
            have hwv : (waitV (at_.toNat, bs)).length = 33 := by simp [waitV, bytesV_length, hbl]
            apply wpC_pure (by rfl)
            · intro K w' hK
              rw [if_pos (by rfl)]
              refine calm_build 66 #[(0, .tmp 50), (1, .tmp 57)] rfl [(0, .int .i64 at_), (1, .agg (bytesV bs).toArray)] rfl waitZero _ #[(0, 1), (1, 32)] (waitV (at_.toNat, bs)).toArray (by kernel_rfl) Try.underlying66 (fun _ => by kernel_rfl) ?_ ?_
              · rw [fill_cons _ _ 0 _ _ 0 1 rfl rfl (by decide), fill_cons _ _ 1 _ _ 1 32 rfl (by simp [Value.cells, bytesV_length, hbl]) (by simp [splice, Value.cells, waitZero])]
                simp [Instr.fill, splice, Value.cells, waitZero, waitV, Int.toNat_of_nonneg c1, bytesV_length, hbl]
              · revert hK
                go_simp
                exact id
            refine wpC_new (by rfl) (by rfl) (fun K hK => ?_)
            refine wp_buildSlice1 ty_waits (.tmp 58) rfl (.agg (waitV (at_.toNat, bs)).toArray) rfl (by simp [Value.cells, hwv]) (by decide) ?_
            go_simp
            refine hK _ _ (Pre.push _ rfl) ?_
            clear hK K
            have hk3 : Keep (fun _ => False) w2 (w2.alloc (Obj.cells (waitV (at_.toNat, bs)).toArray 66)).drew := ((Keep.refl _ _).alloc _).drew
            have hnew : (w2.alloc (Obj.cells (waitV (at_.toNat, bs)).toArray 66)).drew.heap[w2.heap.size]? = some (Obj.cells (waitV (at_.toNat, bs)).toArray 66) := heap_alloc_new w2 _
            obtain ⟨w3, hw3⟩ : ∃ w3, w3 = (w2.alloc (Obj.cells (waitV (at_.toNat, bs)).toArray 66)).drew := ⟨_, rfl⟩
            rw [← hw3] at hk3 hnew ⊢
            clear hw3
            have hrw : Row w3 66 33 vw1 (act D).2.waits.length (waitsV (act D).2.waits) :=
              (HI1.out.waits.keep hk2 (fun k e x => (HI1.out.foot.waits k e).2.2.2 (by rw [x]; rfl))).keep hk3 (fun _ _ x => x)
            have hl : (act D).2.waits.length = D.waits.length := by rw [act_waits]
            refine wpC_act (by rfl) (by rfl) (fun K hK => ?_)
            refine wp_append ty_waits (.tmp 49) (.tmp 59) rfl rfl hrw (some ⟨w2.heap.size, 0, none⟩) 1 1 (waitV (at_.toNat, bs)) rfl
              ⟨by omega, fun _ => ⟨_, rfl, fun j u hu => by rw [addr_add, Nat.zero_add, cell_of_row _ _ _ _ _ _ hnew]; simpa using hu⟩⟩
              (by intro u hu; simp only [waitV, List.mem_cons] at hu; rcases hu with rfl | hu; rfl; exact bytesV_one _ u hu) (by unfold maxLen; omega) (by omega) ?_
            intro v4 w4 hr4 hk4 hv4
            refine hK _ _ ?_
            clear hK K
            have hvb : ∀ k, vw1.ownBlock = some k → F1 k ∧ k ≠ b ∧ vs1.ownBlock ≠ some k ∧ (Value.slice (some ⟨g1, 0, none⟩) D.safe.length cap1).ownBlock ≠ some k := HI1.out.foot.waits
            have hh4 := hk4.get (hk3.get Hh2.out id) (fun e => (hvb _ e).2.1 rfl)
            clear i0 i1 i2 i3 i4 i5 if1 ib1
            obtain ⟨i0, i1, i2, i3, i4, i5, if1, ib1⟩ := cells6 hh4
            obtain ⟨ad4, cap4, rfl, -⟩ := hr4.form
            have Hv4 := hid hv4
            have Hh4 := hid hh4
            have Hrw := hid hrw
            have Hr4 := hid hr4
            have Hl := hid hl
            clear hh4 hrw hr4 hl hnew hv4
            repeat (apply wpC_pure (by rfl); (intro K w'; go_simp; exact id))
            (refine wpC_act (by rfl) (by rfl) (fun K hK => ?_); go_simp; refine hK _ _ ?_; clear hK K)
            refine wpC_nil ?_
            go_wp2
            go_ret
            refine ⟨by rw [Hw.out]; rfl, ?_⟩
            have hok := Hok.out
            rw [Hw.out] at hok ⊢
            have hk5 : Keep (fun k => k = b) w4 (w4.setCell ⟨b, 2, none⟩ (.slice ad4 ((act D).2.waits.length + 1) cap4)) := by refine Keep.setCell (Keep.refl _ _) (.inl ?_) _; rfl
            have hh5 := heap_setCell6 Hh4.out 2 (.slice ad4 ((act D).2.waits.length + 1) cap4)
            obtain ⟨w5, hw5⟩ : ∃ w5, w5 = w4.setCell ⟨b, 2, none⟩ (.slice ad4 ((act D).2.waits.length + 1) cap4) := ⟨_, rfl⟩
            rw [← hw5] at hk5 hh5 ⊢
            clear hw5 i0 i1 i2 i3 i4 i5 if1 ib1
            obtain ⟨vD, hvD⟩ : ∃ v, v = Value.slice ad4 ((act D).2.waits.length + 1) cap4 := ⟨_, rfl⟩
            have hr4 := Hr4.out
            have hv4 := Hv4.out
            rw [← hvD] at hh5 hr4 hv4
            have hf1 := HI1.out.foot
            have hown : ∀ k, vD.ownBlock = some k → vw1.ownBlock = some k ∨ k = w3.heap.size := by
              intro k hk
              rcases hv4 with ⟨_, h0⟩ | ⟨k', h1, h2⟩
              · omega
              · rw [hk] at h1; cases h1; exact h2
            have hnew : ∀ k, F1 k → k ≠ w3.heap.size := fun k hF e => by
              have h1 := hf1.lt k hF
              have h2 := hk2.size
              have h3 := hk3.size
              omega
            have kb : ∀ k, F1 k → k ≠ g1 → vw1.ownBlock ≠ some k → k ≠ b → w5.heap[k]? = w1.heap[k]? := fun k hF h1 h2 h3 => by
              have hlt := hf1.lt k hF
              rw [hk5.block k (by have := hk2.size; have := hk3.size; have := hk4.size; omega) h3, hk4.block k (by have := hk2.size; have := hk3.size; omega) h2, hk3.block k (by have := hk2.size; omega) id, hk2.block k hlt h1]
            have hob : ∀ k, vD.ownBlock = some k → k ≠ b ∧ vs1.ownBlock ≠ some k ∧ (Value.slice (some ⟨g1, 0, none⟩) D.safe.length cap1).ownBlock ≠ some k := by
              intro k hk
              rcases hown k hk with h | h
              · exact (hf1.waits k h).2
              · subst h
                exact ⟨fun e => hnew _ hf1.self e.symm, fun e => hnew _ (hf1.safe _ e).1 rfl, fun e => hnew _ (hf1.now _ e).1 rfl⟩
            have kz : Keep (fun k => vw1.ownBlock = some k ∨ k = b) w2 w5 :=
              (hk3.next hk4 (H := fun k => vw1.ownBlock = some k) (fun _ _ x => x.elim) (fun _ _ x => x)).next hk5 (fun _ _ x => .inl x) (fun _ _ x => .inr x)
            have ks : Keep (fun k => k = g1 ∨ vw1.ownBlock = some k ∨ k = b) w1 w5 :=
              hk2.next kz (fun _ _ x => .inl x) (fun _ _ x => .inr x)
            have hr5 := hr4.keep hk5 fun k e x => (hob k e).1 x
            refine ⟨fun k => F1 k ∨ vD.ownBlock = some k, ⟨vs1, .slice (some ⟨g1, 0, none⟩) D.safe.length cap1, vD, ?_⟩, ?_, ?_⟩
            · refine ⟨?_, ?_, ?_, ?_, ⟨.inl hf1.self, fun k e => ⟨.inl (hf1.safe k e).1, (hf1.safe k e).2⟩, fun k e => ⟨.inl (hf1.now k e).1, (hf1.now k e).2⟩, fun k e => ⟨.inr e, hob k e⟩, ?_⟩, hok⟩
              · rw [hh5]; rfl
              · refine HI1.out.safe.keep ks fun k e x => ?_
                rcases x with x | x | x
                · subst x; exact (hf1.now k rfl).2.2 e
                · exact (hf1.waits k x).2.2.1 e
                · exact (hf1.safe k e).2 x
              · have hr2 := Hr2.out.keep kz fun k e x => by
                  rcases x with x | x
                  · exact (hf1.waits k x).2.2.2 e
                  · exact (hf1.now k e).2.1 x
                have e1 : (DM.now { (act D).2 with waits := (act D).2.waits ++ [(at_.toNat, bs)] }).flatten = (DM.now (act D).2).flatten.take (at_.toNat * 32) ++ (bs ++ (DM.now (act D).2).flatten.drop (at_.toNat * 32 + bs.length)) := by
                  have e2 : DM.now { (act D).2 with waits := (act D).2.waits ++ [(at_.toNat, bs)] } = (DM.now (act D).2).set at_.toNat bs := by simp [DM.now, puts]
                  rw [e2, flat_set _ _ _ HI1.out.ok.now (by rw [now_length, act_safe]; omega) hbl, hbl]
                show Row w5 _ 32 _ (act D).2.safe.length _
                rw [e1, act_safe]
                exact hr2
              · show Row w5 _ 33 vD ((act D).2.waits ++ [(at_.toNat, bs)]).length (waitsV ((act D).2.waits ++ [(at_.toNat, bs)]))
                rw [List.length_append]
                have e3 : waitsV ((act D).2.waits ++ [(at_.toNat, bs)]) = waitsV (act D).2.waits ++ waitV (at_.toNat, bs) := by simp [waitsV]
                rw [e3]
                exact hr5
              · intro k hF
                rcases hF with hF | hF
                · exact Nat.lt_of_lt_of_le (hf1.lt k hF) ks.size
                · exact hr5.lt hF
            · refine hk1.next ks (fun _ _ x => x) fun k hk x => ?_
              have inF : ∀ k, k < w.heap.size → F1 k → F k := fun k hk h => (hF1 k h).elim id fun h => by omega
              rcases x with x | x | x
              · subst x; exact inF _ hk (hf1.now _ rfl).1
              · exact inF _ hk (hf1.waits _ x).1
              · subst x; exact inF _ hk hf1.self
            · intro k hF
              rcases hF with hF | hF
              · exact hF1 k hF
              · rcases hown k hF with h | h
                · exact hF1 k (hf1.waits k h).1
                · exact .inr (by have := hk1.size; have := hk2.size; have := hk3.size; omega)
        · have c3' : ((n : Int) == 32) = false := by simp; omega
          have c4 : bs.length ≠ 32 := by omega
          have HI := hid hI
          clear hI hh hgn htk hDat
          go_enter Try.func11, Try.ntmps11
          go_wp2
          go_ret
          rw [Bad.out (.inr (.inr c4))]
          exact ⟨rfl, HI.out.to (Keep.refl _ _)⟩
end Go.Proofs.Ytenijbngmdaakaa
