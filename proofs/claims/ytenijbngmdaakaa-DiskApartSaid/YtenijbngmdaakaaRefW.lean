/- The document's disk: contracts for Arm and Write. Conditions: as each contract names them. -/
import Derived.Test.YtenijbngmdaakaaRef
namespace Go.Proofs.Ytenijbngmdaakaa
open Go.RowKit
open DM

def putZero : Value := .agg #[.int .i64 0, .string (str [])]
theorem ty_puts : SliceTy Try.prog 68 77 putZero 2 24 := ⟨by kernel_rfl, by kernel_rfl, by simp [putZero, Value.cells], by decide⟩

set_option maxHeartbeats 400000 in
theorem ref_arm (w : World) (b : Nat) (F : Nat → Prop) (D : Dk) (n : Int) (hn : n < 9223372036854775808) (hD : RefAt w b F D) :
    Calls Try.prog 33 #[.pointer (some ⟨b, 0, none⟩), .int .i64 n] w fun e w' => e = .returned (.tuple #[]) ∧ RefTo b F w (DM.arm D n) w' := by
  obtain ⟨vs, vw, hI⟩ := hD
  have hok := hI.ok.arm n hn
  have hh := hI.head
  unfold refCells at hh
  obtain ⟨h0, h1, h2, h3, hf, hb⟩ := cells4 hh
  have fin : ∀ w', Keep (fun k => k = b) w w' → w'.heap[b]? = some (.cells (refCells vs vw (DM.arm D n)) 70 (0, 0)) → RefTo b F w (DM.arm D n) w' := fun w' hk hh' =>
    (hI.head' hk hh' rfl rfl hok).to (hk.mono fun i _ e => by subst e; exact hI.foot.self)
  have Fin := hid fin
  have Hh := hid hh
  clear fin hh
  by_cases c : n < 0
  · go_enter Try.func33, Try.ntmps33
    go_wp2
    go_end0
    refine ⟨rfl, Fin.out _ (by refine Keep.setCell (Keep.setCell (Keep.refl _ _) (.inl ?_) _) (.inl ?_) _ <;> rfl) ?_⟩
    rw [heap_setCell6 (heap_setCell6 Hh.out _ _)]
    simp [refCells, DM.arm, c, leftV]
  · go_enter Try.func33, Try.ntmps33
    go_wp2
    go_end0
    refine ⟨rfl, Fin.out _ (by refine Keep.setCell (Keep.refl _ _) (.inl ?_) _; rfl) ?_⟩
    have hl : leftV (DM.arm D n).left = n := by unfold DM.arm; simp only; rw [if_neg (by omega)]; show ((n.toNat : Nat) : Int) = n; omega
    rw [heap_setCell6 Hh.out]
    unfold refCells
    rw [hl]
    simp [DM.arm]

set_option maxHeartbeats 1000000 in
theorem ref_write (w : World) (b : Nat) (F : Nat → Prop) (D : Dk) (at_ : Int) (ao : Option Addr) (n c : Nat) (bs : List UInt8) (hD : RefAt w b F D) (hsrc : Cells w ao n 1 (bytesV bs))
    (hap : 0 < n → ∀ x, ao = some x → ¬ F x.block) (hlt : at_ < 9223372036854775808) (hn : n ≤ 9223372036854775807) (hfew : D.waits.length ≤ 1000000) :
    Calls Try.prog 30 #[.pointer (some ⟨b, 0, none⟩), .int .i64 at_, .slice ao n c] w fun e w' => e = .returned (.int .i64 (DM.write D at_ bs).1) ∧ RefTo b F w (DM.write D at_ bs).2 w' := by
  obtain ⟨vs, vw, hI⟩ := hD
  have hDat : RefAt w b F D := ⟨_, _, hI⟩
  have hbl : bs.length = n := by have := hsrc.1; rw [bytesV_length] at this; omega
  have hh := hI.head
  unfold refCells at hh
  obtain ⟨h0, h1, h2, h3, hf, hb⟩ := cells4 hh
  obtain ⟨ad0, cap0, rfl, -⟩ := hI.safe.form
  have hpos := hI.ok.few
  have same : RefTo b F w D w := hI.to (Keep.refl _ _)
  have Same := hid same
  clear same
  cases hd : D.down with
  | true =>
    rw [hd] at h3
    have hw : DM.write D at_ bs = (6, D) := by simp [DM.write, hd]
    have Hw := hid hw
    clear hw
    go_enter Try.func30, Try.ntmps30
    go_wp2
    go_ret
    exact ⟨by rw [Hw.out]; rfl, by rw [Hw.out]; exact Same.out⟩
  | false =>
    rw [hd] at h3
    by_cases c1 : at_ < 0
    · have hw : DM.write D at_ bs = (30, D) := by simp [DM.write, hd, c1]
      have Hw := hid hw
      clear hw
      go_enter Try.func30, Try.ntmps30
      go_wp2
      go_ret
      exact ⟨by rw [Hw.out]; rfl, by rw [Hw.out]; exact Same.out⟩
    · by_cases c2 : (D.safe.length : Int) ≤ at_
      · have hw : DM.write D at_ bs = (30, D) := by simp [DM.write, hd, c2]
        have Hw := hid hw
        clear hw
        go_enter Try.func30, Try.ntmps30
        go_wp2
        go_ret
        exact ⟨by rw [Hw.out]; rfl, by rw [Hw.out]; exact Same.out⟩
      · by_cases c3 : n = 32
        · subst c3
          have hpure : ¬ (at_ < 0 ∨ (D.safe.length : Int) ≤ at_ ∨ bs.length ≠ 32) := by omega
          cases ha : (act D).1 with
          | false =>
            have hw : DM.write D at_ bs = (6, (act D).2) := by simp [DM.write, hd, hpure, ha]
            have Hw := hid hw
            clear hw
            go_enter Try.func30, Try.ntmps30
            go_wp2_with (at_builtin; refine stopAt ?_; intro q hq)
            refine (ref_act w b F D hDat).mono ?_
            rintro e w1 ⟨rfl, ht1⟩
            have Ht := hid ht1
            clear ht1
            go_wp2_with (at_builtin; refine stopAt ?_; intro q hq)
            go_ret
            exact ⟨by rw [Hw.out]; rfl, by rw [Hw.out]; exact Ht.out⟩
          | true =>
            have hw : DM.write D at_ bs = (0, { (act D).2 with waits := (act D).2.waits ++ [(at_.toNat, bs)] }) := by simp [DM.write, hd, hpure, ha]
            have Hw := hid hw
            have Hok := hid (hI.ok.write at_ bs)
            clear hw
            have hs := fun w' (h : Cells w' ao 32 1 (bytesV bs)) => run_str (P := Try.prog) Try.underlying22 Try.underlying5 Try.underlying9 (c := c) h
            have Hs := hid hs
            clear hs
            go_enter Try.func30, Try.ntmps30
            go_wp2_with (at_builtin; refine stopAt ?_; intro q hq)
            refine (ref_act w b F D hDat).mono ?_
            rintro e w1 ⟨rfl, F1, ⟨vs1, vw1, hI1⟩, hk1, hF1⟩
            have hh1 := hI1.head
            unfold refCells at hh1
            clear h0 h1 h2 h3 hf hb
            obtain ⟨i0, i1, i2, i3, if1, ib1⟩ := cells4 hh1
            have hs1 := hsrc.keep0 hk1 (fun h => hap (by omega))
            have hcv := Hs.out w1.drew (hs1.keep (F := fun _ => False) (Keep.refl _ _).drew (fun _ _ x => x))
            have HI1 := hid hI1
            have Hh1 := hid hh1
            have Hsame := Same
            clear hI1 hh1
            go_wp2_with (at_builtin; refine stopAt ?_; intro q hq)
            refine wp_region_canon [39] (by kernel_rfl) (by kernel_rfl) ?_
            repeat (first | (apply wpC_pure (by rfl); (intro K w'; go_simp; exact id)) | (apply wpC_load (by rfl); (intro K; go_simp; exact id)))
            refine wpC_new (by rfl) (by rfl) (fun K hK => ?_)
            go_simp
            refine hK _ _ (Pre.refl _) ?_
            clear hK K hcv
            have hpv : (putV (at_.toNat, bs)).length = 2 := rfl
            apply wpC_pure (by rfl)
            · intro K w' hK
              rw [if_pos (by rfl)]
              refine calm_build 77 #[(0, .tmp 37), (1, .tmp 39)] rfl [(0, .int .i64 at_), (1, .string (str bs))] rfl putZero _ #[(0, 1), (1, 1)] (putV (at_.toNat, bs)).toArray (by kernel_rfl) Try.underlying77 (fun _ => by kernel_rfl) ?_ ?_
              · rw [fill_cons _ _ 0 _ _ 0 1 rfl rfl (by decide), fill_cons _ _ 1 _ _ 1 1 rfl rfl (by simp [splice, Value.cells, putZero])]
                simp [Instr.fill, splice, Value.cells, putZero, putV, Int.toNat_of_nonneg (by omega : 0 ≤ at_)]
              · revert hK
                go_simp
                exact id
            refine wpC_new (by rfl) (by rfl) (fun K hK => ?_)
            refine wp_buildSlice1 ty_puts (.tmp 40) rfl (.agg (putV (at_.toNat, bs)).toArray) rfl rfl (by decide) ?_
            go_simp
            refine hK _ _ (Pre.push _ rfl) ?_
            clear hK K
            have hk3 : Keep (fun _ => False) w1 (w1.alloc (Obj.cells (putV (at_.toNat, bs)).toArray 77)).drew := ((Keep.refl _ _).alloc _).drew
            have hnew : (w1.alloc (Obj.cells (putV (at_.toNat, bs)).toArray 77)).drew.heap[w1.heap.size]? = some (Obj.cells (putV (at_.toNat, bs)).toArray 77) := heap_alloc_new w1 _
            obtain ⟨w3, hw3⟩ : ∃ w3, w3 = (w1.alloc (Obj.cells (putV (at_.toNat, bs)).toArray 77)).drew := ⟨_, rfl⟩
            have hw3' : w1.drew.alloc (Obj.cells (putV (at_.toNat, bs)).toArray 77) = w3 := hw3.symm
            rw [← hw3] at hk3 hnew
            first | rw [hw3'] | rw [← hw3]
            clear hw3 hw3'
            have hrw : Row w3 77 2 vw1 (act D).2.waits.length (putsV (act D).2.waits) := HI1.out.waits.keep hk3 (fun _ _ x => x)
            have hl : (act D).2.waits.length = D.waits.length := by rw [act_waits]
            refine wpC_act (by rfl) (by rfl) (fun K hK => ?_)
            refine wp_append ty_puts (.tmp 36) (.tmp 41) rfl rfl hrw (some ⟨w1.heap.size, 0, none⟩) 1 1 (putV (at_.toNat, bs)) rfl
              ⟨by omega, fun _ => ⟨_, rfl, fun j u hu => by rw [addr_add, Nat.zero_add, cell_of_row _ _ _ _ _ _ hnew]; simpa using hu⟩⟩
              (by intro u hu; simp only [putV, List.mem_cons, List.not_mem_nil, or_false] at hu; rcases hu with rfl | rfl <;> rfl) (by unfold maxLen; omega) (by omega) ?_
            intro v4 w4 hr4 hk4 hv4
            refine hK _ _ ?_
            clear hK K
            have hvb : ∀ k, vw1.ownBlock = some k → F1 k ∧ k ≠ b ∧ vs1.ownBlock ≠ some k := HI1.out.foot.waits
            have hh4 := hk4.get (hk3.get Hh1.out id) (fun e => (hvb _ e).2.1 rfl)
            clear i0 i1 i2 i3 if1 ib1
            obtain ⟨i0, i1, i2, i3, if1, ib1⟩ := cells4 hh4
            obtain ⟨ad4, cap4, rfl, -⟩ := hr4.form
            have Hv4 := hid hv4
            have Hh4 := hid hh4
            have Hrw := hid hrw
            have Hr4 := hid hr4
            have Hl := hid hl
            clear hh4 hrw hr4 hl hnew hv4
            repeat (apply wpC_pure (by rfl); (intro K w'; go_simp; exact id))
            (refine wpC_act (by rfl) (by rfl) (fun K hK => ?_); go_simp; refine hK _ _ ?_; clear hK K)
            refine wpC_nil ?_
            go_wp2
            go_ret
            refine ⟨by rw [Hw.out]; rfl, ?_⟩
            have hok := Hok.out
            rw [Hw.out] at hok ⊢
            have hk5 : Keep (fun k => k = b) w4 (w4.setCell ⟨b, 1, none⟩ (.slice ad4 ((act D).2.waits.length + 1) cap4)) := by refine Keep.setCell (Keep.refl _ _) (.inl ?_) _; rfl
            have hh5 := heap_setCell6 Hh4.out 1 (.slice ad4 ((act D).2.waits.length + 1) cap4)
            obtain ⟨w5, hw5⟩ : ∃ w5, w5 = w4.setCell ⟨b, 1, none⟩ (.slice ad4 ((act D).2.waits.length + 1) cap4) := ⟨_, rfl⟩
            rw [← hw5] at hk5 hh5 ⊢
            clear hw5 i0 i1 i2 i3 if1 ib1
            obtain ⟨vD, hvD⟩ : ∃ v, v = Value.slice ad4 ((act D).2.waits.length + 1) cap4 := ⟨_, rfl⟩
            have hr4 := Hr4.out
            have hv4 := Hv4.out
            rw [← hvD] at hh5 hr4 hv4
            have hf1 := HI1.out.foot
            have hown : ∀ k, vD.ownBlock = some k → vw1.ownBlock = some k ∨ k = w3.heap.size := by
              intro k hk
              rcases hv4 with ⟨_, h0⟩ | ⟨k', h1, h2⟩
              · omega
              · rw [hk] at h1; cases h1; exact h2
            have hnew : ∀ k, F1 k → k ≠ w3.heap.size := fun k hF e => by
              have h1 := hf1.lt k hF
              have h3 := hk3.size
              omega
            have hob : ∀ k, vD.ownBlock = some k → k ≠ b ∧ vs1.ownBlock ≠ some k := by
              intro k hk
              rcases hown k hk with h | h
              · exact (hf1.waits k h).2
              · subst h
                exact ⟨fun e => hnew _ hf1.self e.symm, fun e => hnew _ (hf1.safe _ e).1 rfl⟩
            have ks : Keep (fun k => vw1.ownBlock = some k ∨ k = b) w1 w5 :=
              (hk3.next hk4 (H := fun k => vw1.ownBlock = some k) (fun _ _ x => x.elim) (fun _ _ x => x)).next hk5 (fun _ _ x => .inl x) (fun _ _ x => .inr x)
            have hr5 := hr4.keep hk5 fun k e x => (hob k e).1 x
            refine ⟨fun k => F1 k ∨ vD.ownBlock = some k, ⟨vs1, vD, ?_⟩, ?_, ?_⟩
            · refine ⟨?_, ?_, ?_, ⟨.inl hf1.self, fun k e => ⟨.inl (hf1.safe k e).1, (hf1.safe k e).2⟩, fun k e => ⟨.inr e, hob k e⟩, ?_⟩, hok⟩
              · rw [hh5]; rfl
              · refine HI1.out.safe.keep ks fun k e x => ?_
                rcases x with x | x
                · exact (hf1.waits k x).2.2 e
                · exact (hf1.safe k e).2 x
              · show Row w5 _ 2 vD ((act D).2.waits ++ [(at_.toNat, bs)]).length (putsV ((act D).2.waits ++ [(at_.toNat, bs)]))
                rw [List.length_append]
                have e3 : putsV ((act D).2.waits ++ [(at_.toNat, bs)]) = putsV (act D).2.waits ++ putV (at_.toNat, bs) := by simp [putsV]
                rw [e3]
                exact hr5
              · intro k hF
                rcases hF with hF | hF
                · exact Nat.lt_of_lt_of_le (hf1.lt k hF) ks.size
                · exact hr5.lt hF
            · refine hk1.next ks (fun _ _ x => x) fun k hk x => ?_
              have inF : ∀ k, k < w.heap.size → F1 k → F k := fun k hk h => (hF1 k h).elim id fun h => by omega
              rcases x with x | x
              · exact inF _ hk (hf1.waits _ x).1
              · subst x; exact inF _ hk hf1.self
            · intro k hF
              rcases hF with hF | hF
              · exact hF1 k hF
              · rcases hown k hF with h | h
                · exact hF1 k (hf1.waits k h).1
                · right
                  have h1 := hk1.size
                  have h3 := hk3.size
                  omega
        · have hw : DM.write D at_ bs = (30, D) := by simp [DM.write, hd, hbl, c3]
          have Hw := hid hw
          have c4 : ((n : Int) != 32) = true := by rw [bne_iff_ne]; omega
          clear hw
          go_enter Try.func30, Try.ntmps30
          go_wp2
          go_ret
          exact ⟨by rw [Hw.out]; rfl, by rw [Hw.out]; exact Same.out⟩
end Go.Proofs.Ytenijbngmdaakaa
