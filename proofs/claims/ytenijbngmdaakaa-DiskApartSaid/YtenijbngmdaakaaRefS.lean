/- The document's disk: a contract for Sync. Conditions: as the contract names them. -/
import Derived.Test.YtenijbngmdaakaaRefR
namespace Go.Proofs.Ytenijbngmdaakaa
open Go.RowKit
open DM

theorem secsV_set (s : List Sec) (i : Nat) (x : Sec) : secsV (s.set i x) = (secsV s).set i (.string (str x)) := by simp [secsV, List.map_set]
theorem puts_succ (s : List Sec) (l : List (Nat × Sec)) (k : Nat) (hk : k < l.length) : puts s (l.take (k + 1)) = (puts s (l.take k)).set l[k].1 l[k].2 := by
  rw [List.take_add_one, List.getElem?_eq_getElem hk, Option.toList_some, puts_append]; rfl

structure RefSyncRel (w1 : World) (b : Nat) (gs cap : Nat) (D1 : Dk) (k : Nat) (wr : World) : Prop where
  row : Row wr 9 1 (.slice (.some ⟨gs, 0, none⟩) D1.safe.length cap) D1.safe.length (secsV (puts D1.safe (D1.waits.take k)))
  keep : Keep (fun j => j = gs) w1 wr

set_option maxHeartbeats 1000000 in
theorem ref_sync (w : World) (b : Nat) (F : Nat → Prop) (D : Dk) (hD : RefAt w b F D) (hfew : D.waits.length ≤ 1000000) :
    Calls Try.prog 32 #[.pointer (some ⟨b, 0, none⟩)] w fun e w' => e = .returned (.int .i64 (DM.sync D).1) ∧ RefTo b F w (DM.sync D).2 w' := by
  cases ha : (act D).1 with
  | false =>
    have hw : DM.sync D = (6, (act D).2) := by simp [DM.sync, ha]
    have Hw := hid hw
    clear hw
    go_enter Try.func32, Try.ntmps32
    go_wp2_with (at_builtin; refine stopAt ?_; intro q hq)
    refine (ref_act w b F D hD).mono ?_
    rintro e w1 ⟨rfl, ht1⟩
    have Ht := hid ht1
    clear ht1
    go_wp2_with (at_builtin; refine stopAt ?_; intro q hq)
    go_ret
    exact ⟨by rw [Hw.out]; rfl, by rw [Hw.out]; exact Ht.out⟩
  | true =>
    have hw : DM.sync D = (0, { (act D).2 with safe := now (act D).2, waits := [] }) := by simp [DM.sync, ha]
    have Hw := hid hw
    have Hok := hid (hD.ok.sync)
    clear hw
    go_enter Try.func32, Try.ntmps32
    go_wp2_with (at_builtin; refine stopAt ?_; intro q hq)
    refine (ref_act w b F D hD).mono ?_
    rintro e w1 ⟨rfl, F1, ⟨vs1, vw1, hI1⟩, hk1, hF1⟩
    have hfew1 : (act D).2.waits.length ≤ 1000000 := by rw [act_waits]; exact hfew
    obtain ⟨D1, hD1⟩ : ∃ D1, D1 = (act D).2 := ⟨_, rfl⟩
    rw [← hD1] at hI1 hfew1
    have HD1 := hid hD1
    have hpos := hI1.ok.pos
    have hfewS := hI1.ok.few
    obtain ⟨gs, cap, cur, fz, rfl, hgs, -⟩ := hI1.safe.some hpos
    obtain ⟨aw, capw, rfl, -⟩ := hI1.waits.form
    have hne : b ≠ gs := fun e => (hI1.foot.safe gs rfl).2 e.symm
    have HR1 := hid (RefSyncRel.mk (w1 := w1) (b := b) (k := 0) hI1.safe (Keep.refl _ _))
    have HI1 := hid hI1
    clear hD1 hI1 hgs
    have hh1 := HI1.out.head
    unfold refCells at hh1
    obtain ⟨i0, i1, i2, i3, if1, ib1⟩ := cells4 hh1
    have Hh1 := hid hh1
    clear hh1
    go_wp2_with (at_builtin; refine stopAt ?_; intro q hq)
    clear i0 i1 i2 i3 if1
    go_loopw [4] (fun kv wr => ∃ k : Nat, k ≤ D1.waits.length ∧ kv = .int .i64 k ∧ Hid (RefSyncRel w1 b gs cap D1 k wr)) (fun kv _ => D1.waits.length - (intOf kv).toNat)
    case atStart => exact ⟨0, Nat.zero_le _, rfl, HR1⟩
    case round =>
      clear HR1
      obtain ⟨k, hk, rfl, HR⟩ := hrel
      have hhr := HR.out.keep.get Hh1.out hne
      obtain ⟨i0, i1, i2, i3, if1, ib2⟩ := cells4 hhr
      have Hhr := hid hhr
      clear hhr
      by_cases hkn : k < D1.waits.length
      · have h4 : (k : Int) < D1.waits.length := by omega
        have hwr := HI1.out.waits.keep HR.out.keep (fun j e x => (HI1.out.foot.waits j e).2.2 (by rw [x]; rfl))
        obtain ⟨gw, capw', hvw, b0⟩ := hwr.getCell (j := k * 2) (u := .int .i64 (D1.waits[k].1 : Int)) (by have := putsV_get D1.waits k hkn 0 (by decide); simpa [putV] using this)
        obtain ⟨gw2, capw2, hvw2, b1⟩ := hwr.getCell (j := k * 2 + 1) (u := .string (str D1.waits[k].2)) (by have := putsV_get D1.waits k hkn 1 (by decide); simpa [putV] using this)
        cases hvw
        cases hvw2
        have hps := (HI1.out.ok.waits _ (List.getElem_mem hkn)).1
        obtain ⟨p, hp⟩ : ∃ p, p = D1.waits[k] := ⟨_, rfl⟩
        rw [← hp] at b0 b1 hps
        have hrow := HR.out.row
        have hps2 := puts_succ D1.safe D1.waits k hkn
        rw [← hp] at hps2
        have hpl : (secsV (puts D1.safe (D1.waits.take k))).length = D1.safe.length := by rw [secsV_length, puts_length]
        obtain ⟨u, hu⟩ : ∃ u, (secsV (puts D1.safe (D1.waits.take k)))[p.1]? = some u := ⟨_, List.getElem?_eq_getElem (by omega)⟩
        have c0 : wr.cell? ⟨gs, p.1, none⟩ = some u := by rw [hrow.cell _ (by omega)]; exact hu
        have f0 := hrow.frozen p.1 (by omega)
        have Hps2 := hid hps2
        have h5 : (p.1 : Int) < (D1.safe.length : Int) := by omega
        clear hwr hp hrow hps2 hpl hu
        go_wp2_with (at_builtin; refine stopAt ?_; intro q hq)
        refine wp_region_canon [] (by kernel_rfl) (by kernel_rfl) ?_
        repeat (first | (apply wpC_pure (by rfl); (intro K w'; go_simp; exact id)) | (apply wpC_load (by rfl); (intro K; go_simp; exact id)))
        (refine wpC_act (by rfl) (by rfl) (fun K hK => ?_); go_simp; refine hK _ _ ?_; clear hK K)
        refine wpC_nil ?_
        obtain ⟨w2, hw2⟩ : ∃ w2, w2 = (wr.setCell ⟨gs, p.1, none⟩ (.string (str p.2))).drew := ⟨_, rfl⟩
        rw [← hw2]
        have hr2 : Row w2 9 1 (.slice (.some ⟨gs, 0, none⟩) D1.safe.length cap) D1.safe.length (secsV (puts D1.safe (D1.waits.take (k + 1)))) := by
          rw [Hps2.out, secsV_set, hw2]
          exact ((HR.out.row.setOne p.1 (by omega) (.string (str p.2)) rfl).keep (F := fun _ => False) (Keep.refl _ _).drew (fun _ _ x => x))
        have hk2 : Keep (fun j => j = gs) w1 w2 := by
          rw [hw2]; refine (Keep.setCell HR.out.keep (.inl ?_) _).drew; rfl
        have HR2 := hid (RefSyncRel.mk (w1 := w1) (b := b) (k := k + 1) hr2 hk2)
        clear hw2 hr2 hk2 b0 b1 c0 f0
        go_wp2_with (at_builtin; refine stopAt ?_; intro q hq)
        go_roundw
        case rel => exact ⟨k + 1, by omega, by go_num, HR2⟩
        case measure => simp [intOf]; omega
      · have h4 : ¬ (k : Int) < D1.waits.length := by omega
        obtain rfl : k = D1.waits.length := by omega
        go_wp2_with (at_builtin; refine stopAt ?_; intro q hq)
        go_ret
        refine ⟨by rw [Hw.out]; rfl, ?_⟩
        have hok := Hok.out
        rw [Hw.out] at hok ⊢
        rw [← HD1.out] at hok ⊢
        have hk5 : Keep (fun j => j = b) wr (wr.setCell ⟨b, 1, none⟩ (.slice none 0 0)) := by refine Keep.setCell (Keep.refl _ _) (.inl ?_) _; rfl
        have hh5 := heap_setCell6 Hhr.out 1 (.slice none 0 0)
        obtain ⟨w5, hw5⟩ : ∃ w5, w5 = wr.setCell ⟨b, 1, none⟩ (.slice none 0 0) := ⟨_, rfl⟩
        rw [← hw5] at hk5 hh5 ⊢
        clear hw5
        have hf1 := HI1.out.foot
        have hrow := HR.out.row.keep hk5 (fun j e x => by subst x; simp [Value.ownBlock] at e; exact hne e.symm)
        rw [List.take_length] at hrow
        have ks := HR.out.keep.trans hk5
        refine ⟨F1, ⟨.slice (.some ⟨gs, 0, none⟩) D1.safe.length cap, .slice none 0 0, ?_⟩, ?_, fun j x => hF1 j x⟩
        · refine ⟨?_, ?_, ?_, ⟨hf1.self, hf1.safe, fun j e => by simp [Value.ownBlock] at e, fun j x => Nat.lt_of_lt_of_le (hf1.lt j x) ks.size⟩, hok⟩
          · rw [hh5]; simp [refCells]
          · show Row w5 _ 1 _ (DM.now D1).length (secsV (DM.now D1))
            rw [now_length]
            exact hrow
          · exact Row.nil _ _ _
        · refine hk1.next ks (fun _ _ x => x) fun j hj x => ?_
          have inF : F1 j → F j := fun h => (hF1 j h).elim id fun h => by omega
          rcases x with x | x
          · subst x; exact inF (hf1.safe _ rfl).1
          · subst x; exact inF hf1.self
end Go.Proofs.Ytenijbngmdaakaa
