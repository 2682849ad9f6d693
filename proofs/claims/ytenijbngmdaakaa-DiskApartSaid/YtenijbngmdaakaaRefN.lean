/- The document's disk: contracts for blank and New. Conditions: as each contract names them. -/
import Derived.Test.YtenijbngmdaakaaRefS
namespace Go.Proofs.Ytenijbngmdaakaa
open Go.RowKit
open DM

set_option maxHeartbeats 400000 in
theorem ref_blank (w : World) : Calls Try.prog 29 #[] w fun e w' => e = .returned (.string (str DM.blank)) ∧ Keep (fun _ => False) w w' := by
  have hmk : (Instr.makeSlice 22 (.int .i64 32) (.int .i64 32)).run Try.prog w = .ok (.slice (some ⟨w.heap.size, 0, none⟩) 32 32) (w.alloc (.cells (madeCells (Value.int .u8 0).cells (32 * 1)) 5)) := run_make_n (P := Try.prog) ty_bytes .i64 .i64 32 (by decide) (by decide) w
  have hg := heap_alloc_new w (.cells (madeCells (Value.int .u8 0).cells (32 * 1)) 5)
  have hk : Keep (fun _ => False) w (w.alloc (.cells (madeCells (Value.int .u8 0).cells (32 * 1)) 5)) := (Keep.refl _ _).alloc _
  obtain ⟨w2, hw2⟩ : ∃ w2, w2 = w.alloc (.cells (madeCells (Value.int .u8 0).cells (32 * 1)) 5) := ⟨_, rfl⟩
  rw [← hw2] at hmk hg hk
  have hr := Row.made (n := 32) (size := 1) hg (by decide)
  rw [madeCells_alike _ (.int .u8 0) (by intro i hi; simp [Value.cells] at hi; subst hi; rfl) (by decide) (32 * 1)] at hr
  have hb : List.replicate (32 * 1) (Value.int .u8 0) = bytesV DM.blank := by simp [bytesV, DM.blank]
  rw [hb] at hr
  have hcv := run_str (P := Try.prog) Try.underlying22 Try.underlying5 Try.underlying9 (c := 32) (Cells.of_row hr)
  have Hk := hid hk
  clear hg hk hw2 hr hb
  go_enter Try.func29, Try.ntmps29
  go_wp2_with (at_builtin; refine stopAt ?_; intro q hq)
  go_ret
  exact ⟨rfl, Hk.out⟩

theorem ty_strings : SliceTy Try.prog 67 9 (.string (str [])) 1 16 := ⟨by kernel_rfl, by kernel_rfl, rfl, by decide⟩

structure RefNewRel (w : World) (b n k : Nat) (wr : World) : Prop where
  ex : ∃ vs, wr.heap[b]? = some (.cells #[vs, .slice none 0 0, .int .i64 (-1), .bool false] 70 (0, 0)) ∧ Row wr 9 1 vs k (secsV (List.replicate k DM.blank)) ∧
    (∀ j, vs.ownBlock = some j → w.heap.size ≤ j ∧ j ≠ b) ∧ Keep (fun _ => False) w wr ∧ w.heap.size ≤ b

set_option maxHeartbeats 1000000 in
theorem ref_new (w : World) (n : Nat) (h0 : 0 < n) (h1 : n ≤ 2048) :
    Calls Try.prog 19 #[.int .i64 (n : Int)] w fun e w' => ∃ b F, e = .returned (.tuple #[.pointer (some ⟨b, 0, none⟩), .int .i64 0]) ∧ RefAt w' b F (DM.new n) ∧ Keep (fun _ => False) w w' ∧ ∀ k, F k → w.heap.size ≤ k := by
  have c1 : ¬ (n : Int) < 1 := by omega
  have c2 : ¬ (2048 : Int) < n := by omega
  go_enter Try.func19, Try.ntmps19
  go_wp2_with (at_builtin; refine stopAt ?_; intro q hq)
  have hg := heap_alloc_new w (.cells #[.slice none 0 0, .slice none 0 0, .int .i64 (-1), .bool false] 70)
  have hk : Keep (fun _ => False) w (w.alloc (.cells #[.slice none 0 0, .slice none 0 0, .int .i64 (-1), .bool false] 70)) := (Keep.refl _ _).alloc _
  obtain ⟨w2, hw2⟩ : ∃ w2, w2 = w.alloc (.cells #[.slice none 0 0, .slice none 0 0, .int .i64 (-1), .bool false] 70) := ⟨_, rfl⟩
  rw [← hw2] at hg hk ⊢
  clear hw2
  obtain ⟨b, hb⟩ : ∃ b, b = w.heap.size := ⟨_, rfl⟩
  rw [← hb] at hg ⊢
  have hbw : w.heap.size ≤ b := by omega
  clear hb
  have HR2 := hid (RefNewRel.mk (w := w) (n := n) (k := 0) ⟨.slice none 0 0, hg, Row.nil _ _ _, by simp [Value.ownBlock], hk, hbw⟩)
  clear hg hk
  go_loopw [5] (fun kv wr => ∃ k : Nat, k ≤ n ∧ kv = .int .i64 k ∧ Hid (RefNewRel w b n k wr)) (fun kv _ => n - (intOf kv).toNat)
  case atStart => exact ⟨0, Nat.zero_le _, rfl, HR2⟩
  case round =>
    clear HR2
    obtain ⟨k, hk, rfl, HR⟩ := hrel
    obtain ⟨vs, hg, hr, ho, hkp, -⟩ := HR.out.ex
    obtain ⟨i0, i1, i2, i3, if1, ib1⟩ := cells4 hg
    by_cases hkn : k < n
    · have h4 : (k : Int) < n := by omega
      have Hx := hid (And.intro hg (And.intro hr (And.intro ho hkp)))
      clear hg hr ho hkp
      go_wp2_with (at_builtin; refine stopAt ?_; intro q hq)
      refine wp_region_canon [24] (by kernel_rfl) (by kernel_rfl) ?_
      repeat (first | (apply wpC_pure (by rfl); (intro K w'; go_simp; exact id)) | (apply wpC_load (by rfl); (intro K; go_simp; exact id)))
      refine wpC_new (by rfl) (by rfl) (fun K hK => ?_)
      go_simp
      refine (ref_blank wr.drew).mono ?_
      rintro e w3 ⟨rfl, hk3⟩
      refine hK _ _ (Pre.of_keep hk3) ?_
      clear hK K
      (refine wpC_new (by rfl) (by rfl) (fun K hK => ?_); go_simp; refine hK _ _ (Pre.push _ rfl) ?_; clear hK K)
      obtain ⟨hg, hr, ho, hkp⟩ := Hx.out
      have hkd : Keep (fun _ => False) wr w3 := ((Keep.refl _ _).drew).next hk3 (fun _ _ x => x) (fun _ _ x => x)
      have hn4 := heap_alloc_new w3 (.cells #[.string (str DM.blank)] 9)
      have hk4 : Keep (fun _ => False) wr (w3.alloc (.cells #[.string (str DM.blank)] 9)) := hkd.alloc _
      have hsz3 := hkd.size
      obtain ⟨w4, hw4⟩ : ∃ w4, w4 = w3.alloc (.cells #[.string (str DM.blank)] 9) := ⟨_, rfl⟩
      rw [← hw4] at hn4 hk4 ⊢
      clear hw4
      have hr4 := hr.keep hk4 (fun _ _ x => x)
      have hg4 := hk4.get hg id
      refine wpC_act (by rfl) (by rfl) (fun K hK => ?_)
      refine wp_append ty_strings (.tmp 23) (.tmp 25) rfl rfl hr4 (some ⟨w3.heap.size, 0, none⟩) 1 1 [.string (str DM.blank)] rfl
        ⟨rfl, fun _ => ⟨_, rfl, fun j u hu => by rw [addr_add, Nat.zero_add, cell_of_row _ _ _ _ _ _ hn4]; simpa using hu⟩⟩ (by intro u hu; simp at hu; subst hu; rfl) (by unfold maxLen; omega) (by omega) ?_
      intro v5 w5 hr5 hk5 hv5
      refine hK _ _ ?_
      clear hK K
      have hg5 := hk5.get hg4 (fun e => (ho b e).2 rfl)
      clear i0 i1 i2 i3 if1 ib1
      obtain ⟨i0, i1, i2, i3, if1, ib1⟩ := cells4 hg5
      obtain ⟨ad5, cap5, rfl, -⟩ := hr5.form
      have Hy := hid (And.intro hg5 (And.intro hr5 (And.intro hk5 (And.intro hv5 hk4))))
      clear hg5 hr5 hk5 hv5 hk4 hn4 hr4 hg4 hg hr ho hkp hkd hk3
      repeat (apply wpC_pure (by rfl); (intro K w'; go_simp; exact id))
      (refine wpC_act (by rfl) (by rfl) (fun K hK => ?_); go_simp; refine hK _ _ ?_; clear hK K)
      refine wpC_nil ?_
      obtain ⟨hg5, hr5, hk5, hv5, hk4⟩ := Hy.out
      obtain ⟨hg, hr, ho, hkp⟩ := Hx.out
      obtain ⟨vD, hvD⟩ : ∃ v, v = Value.slice ad5 (k + 1) cap5 := ⟨_, rfl⟩
      rw [← hvD] at hr5 hv5 ⊢
      have hown : ∀ j, vD.ownBlock = some j → w.heap.size ≤ j ∧ j ≠ b := by
        intro j hj
        have hbl := heap_lt hg
        rcases hv5 with ⟨_, h0⟩ | ⟨k', h1, h2⟩
        · omega
        · rw [hj] at h1; cases h1
          rcases h2 with h2 | h2
          · exact ho _ h2
          · have := hk4.size; have := hkp.size; constructor <;> omega
      have hk6 : Keep (fun j => j = b) w5 (w5.setCell ⟨b, 0, none⟩ vD) := by refine Keep.setCell (Keep.refl _ _) (.inl ?_) _; rfl
      have hh6 := heap_setCell6 hg5 0 vD
      obtain ⟨w6, hw6⟩ : ∃ w6, w6 = w5.setCell ⟨b, 0, none⟩ vD := ⟨_, rfl⟩
      rw [← hw6] at hk6 hh6 ⊢
      have h7 : RefNewRel w b n (k + 1) w6 := by
        refine ⟨vD, by rw [hh6]; simp, ?_, hown, ?_, hbw⟩
        · have h8 := hr5.keep hk6 fun j e x => (hown j e).2 x
          rw [List.replicate_succ', show secsV (List.replicate k DM.blank ++ [DM.blank]) = secsV (List.replicate k DM.blank) ++ [.string (str DM.blank)] by simp [secsV]]
          exact h8
        · exact ((hkp.next hk4 (H := fun _ => False) (fun _ _ x => x) (fun _ _ x => x)).next hk5 (H := fun _ => False) (fun _ _ x => x) (fun j hj e => by have := (ho j e).1; omega)).next hk6 (fun _ _ x => x) (fun j hj e => by omega)
      have HR7 := hid h7
      clear h7 hw6 hk6 hh6 hg5 hr5 hk5 hv5 hk4 hg hr ho hkp hown hvD i0 i1 i2 i3 if1 ib1
      go_wp2_with (at_builtin; refine stopAt ?_; intro q hq)
      go_roundw
      case rel => exact ⟨k + 1, by omega, by go_num, HR7⟩
      case measure => simp [intOf]; omega
    · have h4 : ¬ (k : Int) < n := by omega
      obtain rfl : k = n := by omega
      have Hx := hid (And.intro hg (And.intro hr (And.intro ho hkp)))
      clear hg hr ho hkp
      go_wp2_with (at_builtin; refine stopAt ?_; intro q hq)
      go_ret2
      obtain ⟨hg, hr, ho, hkp⟩ := Hx.out
      refine ⟨b, rfl, fun j => j = b ∨ vs.ownBlock = some j, ⟨vs, .slice none 0 0, hg, ?_, Row.nil _ _ _, ⟨.inl rfl, fun j e => ⟨.inr e, (ho j e).2⟩, by simp [Value.ownBlock], ?_⟩, Ok.new h0 h1⟩, hkp, ?_⟩
      · simpa [DM.new] using hr
      · intro j hj
        rcases hj with rfl | hj
        · exact heap_lt hg
        · exact hr.lt hj
      · intro j hj
        rcases hj with rfl | hj
        · exact hbw
        · exact (ho j hj).1
end Go.Proofs.Ytenijbngmdaakaa
