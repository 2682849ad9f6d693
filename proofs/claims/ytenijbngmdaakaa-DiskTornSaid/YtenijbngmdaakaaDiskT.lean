/- DiskTorn: the walk. Conditions: none but that the arguments are bytes and an int. -/
import Derived.Test.YtenijbngmdaakaaDiskK
namespace Go.Proofs.Ytenijbngmdaakaa
open Go.RowKit
open DM

def tD1 (o : UInt8) : Dk := (DM.write (DM.new 1) 0 (rowL o (rowN 0))).2
def tD2 (o : UInt8) : Dk := (DM.sync (tD1 o)).2
def tD3 (o f : UInt8) : Dk := (DM.write (tD2 o) 0 (rowL f (rowN 0))).2
def tD4 (o f : UInt8) (k : Int) : Dk := DM.crash (tD3 o f) [k]

theorem t1 (o : UInt8) : DM.write (DM.new 1) 0 (rowL o (rowN 0)) = (0, { safe := [DM.blank], waits := [(0, rowL o 32)], left := none, down := false }) := by
  have h : (rowL o 32).length = 32 := rowL_length _ _
  simp [DM.write, DM.new, DM.act, rowN_zero, h]
theorem t2 (o : UInt8) : DM.sync (tD1 o) = (0, { safe := [rowL o 32], waits := [], left := none, down := false }) := by
  unfold tD1; rw [t1]; simp [DM.sync, DM.act, DM.now, DM.puts]
theorem t3 (o f : UInt8) : DM.write (tD2 o) 0 (rowL f (rowN 0)) = (0, { safe := [rowL o 32], waits := [(0, rowL f 32)], left := none, down := false }) := by
  have h : (rowL f 32).length = 32 := rowL_length _ _
  unfold tD2; rw [t2]
  simp [DM.write, DM.act, rowN_zero, h]
theorem t4 (o f : UInt8) (k : Int) : tD4 o f k = { safe := [(rowL f 32).take (clamp k) ++ (rowL o 32).drop (clamp k)], waits := [], left := none, down := false } := by
  unfold tD4 tD3; rw [t3]; simp [DM.crash, DM.tear, DM.torn]
theorem t5 (o f : UInt8) (k : Int) : DM.read (tD4 o f k) 0 = ((rowL f 32).take (clamp k) ++ (rowL o 32).drop (clamp k), 0) := by
  rw [t4]; simp [DM.read, DM.now, DM.puts]

set_option maxHeartbeats 2000000 in
theorem torn_walk (o f : UInt8) (k : Int) (hk1 : -9223372036854775808 ≤ k) (hk2 : k ≤ 9223372036854775807) (w : World) :
    Calls Try.prog 7 #[.int .u8 (o.toNat : Int), .int .u8 (f.toNat : Int), .int .i64 k] w fun e w' => e = .returned (.bool true) ∧ Keep (fun _ => False) w w' := by
  have e1 : (DM.write (DM.new 1) 0 (rowL o (rowN 0))).1 = 0 := by rw [t1]
  have e2 : (DM.sync (tD1 o)).1 = 0 := by rw [t2]
  have e3 : (DM.write (tD2 o) 0 (rowL f (rowN 0))).1 = 0 := by rw [t3]
  have e4 : (tD3 o f).waits.length = 1 := by unfold tD3; rw [t3]; rfl
  have e5 : (DM.read (tD4 o f k) 0).2 = 0 := by rw [t5]
  have e6 : (tD4 o f k).waits.length = 0 := by rw [t4]; rfl
  go_enter Try.func7, Try.ntmps7
  go_wp2_with (at_builtin; refine stopAt ?_; intro q hq)
  refine (new_any w 1 (by decide) (by decide)).mono ?_
  rintro e w1 ⟨b, F1, rfl, hD1, hk1, hF1⟩
  have O1 : Own w b F1 (DM.new 1) w1 := ⟨hD1, hF1, hk1⟩
  clear hD1 hk1 hF1
  have hcl := clamp_le k
  go_wp2_with (at_builtin; refine stopAt ?_; intro q hq)
  refine (row_any w1 o 0 (by decide) (by decide)).mono ?_
  rintro e w2 ⟨v2, rfl, hf2⟩
  obtain ⟨aoA, cA, rfl, hcA, hA2, haA2⟩ := Fresh.srcN hf2 O1.at_.lt 32 (rowL_length _ _)
  have O2 := O1.step hf2.keep
  go_wp2_with (at_builtin; refine stopAt ?_; intro q hq)
  refine (row_any w2 f 0 (by decide) (by decide)).mono ?_
  rintro e w3 ⟨v3, rfl, hf3⟩
  obtain ⟨aoB, cB, rfl, hcB, hB3, haB3⟩ := Fresh.srcN hf3 O2.at_.lt 32 (rowL_length _ _)
  have O3 := O2.step hf3.keep
  have hA3 := hA2.keep hf3.keep (fun _ _ x => x)
  clear O1 O2 hA2 hf2 hf3
  go_wp2_with (at_builtin; refine stopAt ?_; intro q hq)
  refine (write_any w3 b F1 (DM.new 1) 0 aoA _ cA (rowL o (rowN 0)) O3.at_ hA3 haA2 (by decide) (by decide) (by decide)).mono ?_
  rintro e w4 ⟨rfl, ht4⟩
  obtain ⟨F4, O4, h4⟩ := O3.toC ht4
  obtain ⟨hA4, haA4⟩ := h4 _ _ _ _ (by decide) hA3 haA2
  obtain ⟨hB4, haB4⟩ := h4 _ _ _ _ (by decide) hB3 haB3
  clear O3 ht4 h4 hA3 haA2 hB3 haB3
  go_wp2_with (at_builtin; refine stopAt ?_; intro q hq)
  refine (sync_any w4 b F4 (tD1 o) O4.at_ (by unfold tD1; rw [t1]; simp)).mono ?_
  rintro e w5 ⟨rfl, ht5⟩
  obtain ⟨F5, O5, h5⟩ := O4.toC ht5
  obtain ⟨hA5, haA5⟩ := h5 _ _ _ _ (by decide) hA4 haA4
  obtain ⟨hB5, haB5⟩ := h5 _ _ _ _ (by decide) hB4 haB4
  clear O4 ht5 h5 hA4 haA4 hB4 haB4
  go_wp2_with (at_builtin; refine stopAt ?_; intro q hq)
  refine (write_any w5 b F5 (tD2 o) 0 aoB _ cB (rowL f (rowN 0)) O5.at_ hB5 haB5 (by decide) (by decide) (by unfold tD2; rw [t2]; simp)).mono ?_
  rintro e w6 ⟨rfl, ht6⟩
  obtain ⟨F6, O6, h6⟩ := O5.toC ht6
  obtain ⟨hA6, haA6⟩ := h6 _ _ _ _ (by decide) hA5 haA5
  obtain ⟨hB6, haB6⟩ := h6 _ _ _ _ (by decide) hB5 haB5
  clear O5 ht6 h6 hA5 haA5 hB5 haB5
  go_wp2_with (at_builtin; refine stopAt ?_; intro q hq)
  refine (waiting_any w6 b F6 (tD3 o f) O6.at_).mono ?_
  rintro e w7 ⟨rfl, rfl⟩
  go_wp2_with (at_builtin; refine stopAt ?_; intro q hq)
  have hn7 := heap_alloc_new w6 (.cells #[.int .i64 k] 3)
  have k67 : Keep (fun _ => False) w6 (w6.alloc (.cells #[.int .i64 k] 3)) := (Keep.refl _ _).alloc _
  have hF7 : ¬ F6 w6.heap.size := fun x => by have := O6.at_.lt _ x; omega
  obtain ⟨w7, hw7⟩ : ∃ w7, w7 = w6.alloc (.cells #[.int .i64 k] 3) := ⟨_, rfl⟩
  rw [← hw7] at hn7 k67 ⊢
  have O7 := O6.step k67
  have hA7 := hA6.keep k67 (fun _ _ x => x)
  have hB7 := hB6.keep k67 (fun _ _ x => x)
  clear hw7 O6 hA6 hB6
  refine (crash_any w7 b F6 (tD3 o f) (some ⟨w6.heap.size, 0, none⟩) 1 1 [k] O7.at_
    ⟨rfl, fun _ => ⟨_, rfl, fun j u hu => by rw [addr_add, Nat.zero_add, cell_of_row _ _ _ _ _ _ hn7]; simpa [intsV] using hu⟩⟩
    (fun x hx hF => by cases hx; exact hF7 hF) (by decide) (by simp; omega) (by unfold tD3; rw [t3]; simp)).mono ?_
  rintro e w8 ⟨rfl, ht8⟩
  obtain ⟨F8, O8, h8⟩ := O7.toC ht8
  obtain ⟨hA8, haA8⟩ := h8 _ _ _ _ (by decide) hA7 haA6
  obtain ⟨hB8, haB8⟩ := h8 _ _ _ _ (by decide) hB7 haB6
  clear O7 ht8 h8 hA7 haA6 hB7 haB6 hn7 hF7 k67
  go_wp2_with (at_builtin; refine stopAt ?_; intro q hq)
  refine (read_any w8 b F8 (tD4 o f k) 0 O8.at_ (by decide)).mono ?_
  rintro e w9 ⟨v9, rfl, hr9, hk9, ho9⟩
  have O9 := O8.step hk9
  have hA9 := hA8.keep hk9 (fun _ _ x => x)
  have hB9 := hB8.keep hk9 (fun _ _ x => x)
  have hrl : (DM.read (tD4 o f k) 0).1.length = 32 := by rw [t5]; simp [rowL_length]; omega
  rw [hrl] at hr9
  obtain ⟨ao9, c9, rfl, -, -, -, h9own⟩ := hr9.form
  have hlt9 : ∀ x, ao9 = some x → x.block < w9.heap.size := fun x hx => hr9.lt (h9own x hx).2
  have hF9 : ∀ j, F8 j → j < w9.heap.size := O9.at_.lt
  clear h9own
  have hS9 := Cells.of_row hr9
  rw [t5] at hS9
  clear O8 hA8 hB8 hk9 ho9 hr9 haA8 haB8
  obtain ⟨M, hM⟩ : ∃ M, (if k < 0 then 0 else k) = M := ⟨_, rfl⟩
  have ecl : (if 32 < M then 32 else M) = ((clamp k : Nat) : Int) := by subst hM; unfold clamp; split <;> split <;> omega
  have hslA := fun wx => run_sliceAt_lo (P := Try.prog) ty_bytes aoA 32 cA .i64 (clamp k) hcl wx
  go_wp2_with (at_builtin; refine stopAt ?_; intro q hq)
  refine (copy_any w9 aoB (clamp k) cB ((rowL f 32).take (clamp k)) ?_ (by omega)).mono ?_
  · have := hB9.take (clamp k) hcl
    rw [Nat.mul_one] at this
    simpa [bytesV, List.map_take, rowN_zero] using this
  rintro e w10 ⟨v10, rfl, hf10⟩
  have O10 := O9.step hf10.keep
  have hA10 := hA9.keep hf10.keep (fun _ _ x => x)
  have hS10 := hS9.keep hf10.keep (fun _ _ x => x)
  have hr10 := hf10.row
  have hl10 : ((rowL f 32).take (clamp k)).length = clamp k := by rw [List.length_take, rowL_length]; omega
  rw [hl10] at hr10
  have ho10 := hf10.own
  have hz10 := hf10.keep.size
  have hkw9 := O9.keep.size
  clear hA9 hB9 hS9 O9 hf10 hl10
  have Hr10 := hid hr10
  obtain ⟨ad10, c10, rfl, -⟩ := hr10.form
  clear hr10 hM ecl
  go_wp2_with (at_builtin; refine stopAt ?_; intro q hq)
  (refine hq.out ?_; clear hq q)
  have hT10 := hA10.tail (clamp k) hcl hcA (by decide)
  refine wpList_plain rfl (fun K hK => ?_)
  refine wp_append ty_bytes (.tmp 65) (.tmp 68) rfl rfl Hr10.out (tailAt aoA cA (clamp k) 1) (32 - clamp k) (cA - clamp k) (bytesV ((rowL o 32).drop (clamp k))) rfl
    (by rw [Nat.mul_one] at hT10; simpa [bytesV, List.map_drop, rowN_zero] using hT10) (bytesV_one _) (by unfold maxLen; omega) (by omega) ?_
  intro v11 w11 hr11 hk11 hv11
  refine hK _ _ ?_
  clear hK K hslA
  have kN : ∀ i, (Value.slice ad10 (clamp k) c10).ownBlock = some i → w9.heap.size ≤ i := ho10
  have hS11 := hS10.keep hk11 (fun x hx e => by have := kN _ e; have := hlt9 x hx; omega)
  have D11 := O10.at_.keep hk11 (fun j hj e => by have := kN _ e; have := hF9 j hj; omega)
  have hkw := O10.keep.next hk11 (H := fun _ => False) (fun _ _ x => x) (fun i hi e => by
    have h1 := kN _ e
    have h2 : w.heap.size ≤ w9.heap.size := hkw9
    omega)
  rw [show clamp k + (32 - clamp k) = 32 by omega, ← bytesV_append] at hr11
  obtain ⟨ao11, c11, rfl, -⟩ := hr11.form
  have hW11 := Cells.of_row hr11
  clear hr11 hk11 hv11 hS10 O10 hT10 Hr10 ho10 kN hA10
  go_wp2_with (at_builtin; refine stopAt ?_; intro q hq)
  refine (same_any w11 ao9 ao11 32 32 c9 c11 _ _ hS11 hW11).mono ?_
  rintro e w12 ⟨rfl, rfl⟩
  have edec : decide (List.take (clamp k) (rowL f 32) ++ List.drop (clamp k) (rowL o 32) = List.take (clamp k) (rowL f 32) ++ List.drop (clamp k) (rowL o 32)) = true := by simp
  rw [edec]
  go_wp2_with (at_builtin; refine stopAt ?_; intro q hq)
  refine (waiting_any w11 b F8 (tD4 o f k) D11).mono ?_
  rintro e w12 ⟨rfl, rfl⟩
  go_wp2_with (at_builtin; refine stopAt ?_; intro q hq)
  refine (known_any w11).mono ?_
  rintro e w12 ⟨rfl, hkk⟩
  go_wp2_with (at_builtin; refine stopAt ?_; intro q hq)
  go_ret
  exact ⟨rfl, hkw.next hkk (fun _ _ x => x) (fun _ _ x => x)⟩
end Go.Proofs.Ytenijbngmdaakaa
