/- The statements' own helpers: row, and the lists of bytes (Same, Copy). Conditions: as the contracts name them. -/
import Derived.Test.YtenijbngmdaakaaDisk
namespace Go.Proofs.Ytenijbngmdaakaa
open Go.RowKit
open DM

def rowL (fill : UInt8) (n : Nat) : List UInt8 := (List.range n).map fun i => fill + UInt8.ofNat i
theorem rowL_length (fill : UInt8) (n : Nat) : (rowL fill n).length = n := by simp [rowL]
theorem rowL_succ (fill : UInt8) (n : Nat) : rowL fill (n + 1) = rowL fill n ++ [fill + UInt8.ofNat n] := by simp [rowL, List.range_succ]
def rowN (less : Int) : Nat := if 1 ≤ less ∧ less ≤ 32 then (32 - less).toNat else 32
theorem rowN_zero : rowN 0 = 32 := rfl

structure RowRel (w : World) (fill : UInt8) (k : Nat) (v : Value) (wr : World) : Prop where
  row : Row wr 5 1 v k (bytesV (rowL fill k))
  keep : Keep (fun _ => False) w wr
  own : ∀ j, v.ownBlock = some j → w.heap.size ≤ j

set_option maxHeartbeats 400000 in
theorem row_any (w : World) (fill : UInt8) (less : Int) (hb : -9223372036854775808 ≤ less) (hb2 : less ≤ 9223372036854775807) :
    Calls Try.prog 10 #[.int .u8 (fill.toNat : Int), .int .i64 less] w fun e w' => ∃ v, e = .returned v ∧ Fresh w v (rowL fill (rowN less)) w' := by
  have hf := fill.toNat_lt
  obtain ⟨f, hfe⟩ : ∃ f, f = fill.toNat := ⟨_, rfl⟩
  rw [← hfe] at hf ⊢
  have Hf := hid hfe
  clear hfe
  have cases3 : less < -9223372036854775775 ∨ -9223372036854775775 ≤ less := by omega
  rcases cases3 with c | c
  · have hr : rowN less = 32 := by unfold rowN; rw [if_neg (by omega)]
    have Hr := hid hr
    have hw : wrap64 (32 - less) < 0 := by unfold wrap64; omega
    have Hw := hid hw
    clear hr hw
    go_enter Try.func10, Try.ntmps10
    go_wp2_with (at_builtin; refine stopAt ?_; intro q hq)
    go_loopw [5, 6] (fun v i wr => ∃ k : Nat, k ≤ rowN less ∧ i = .int .i64 k ∧ Hid (RowRel w fill k v wr)) (fun _ i _ => 32 - (intOf i).toNat)
    case atStart => exact ⟨0, Nat.zero_le _, rfl, hid ⟨Row.nil _ _ _, Keep.refl _ _, by simp [Value.ownBlock]⟩⟩
    case round =>
      obtain ⟨k, hk, rfl, HR⟩ := hrel
      have hk32 : k ≤ 32 := by unfold rowN at hk; split at hk <;> omega
      by_cases hlt : k < rowN less
      · have h1 : k < 32 := by unfold rowN at hlt; split at hlt <;> omega
        have h2 : ((k : Int) != wrap64 (32 - less)) = true := by rw [bne_iff_ne]; have := Hw.out; omega
        go_wp2_with (at_builtin; refine stopAt ?_; intro q hq)
        (refine hq.out ?_; clear hq q)
        have hx : Value.int .u8 (((f : Int) + (k : Int)) % 256) = .int .u8 ((fill + UInt8.ofNat k).toNat : Int) := by
          rw [Hf.out, UInt8.toNat_add, UInt8.toNat_ofNat']
          congr 1
          omega
        have hnew : (wr.alloc (.cells #[.int .u8 (((f : Int) + (k : Int)) % 256)] 5)).heap[wr.heap.size]? = some (.cells #[.int .u8 ((fill + UInt8.ofNat k).toNat : Int)] 5) := by rw [← hx]; exact heap_alloc_new wr _
        have hk1 : Keep (fun _ => False) wr (wr.alloc (.cells #[.int .u8 (((f : Int) + (k : Int)) % 256)] 5)) := (Keep.refl _ _).alloc _
        obtain ⟨w1, hw1⟩ : ∃ w1, w1 = wr.alloc (.cells #[.int .u8 (((f : Int) + (k : Int)) % 256)] 5) := ⟨_, rfl⟩
        rw [← hw1] at hnew hk1 ⊢
        clear hw1 hx
        refine wpList_plain rfl (fun K hK => ?_)
        refine wp_append ty_bytes (.tmp 17) (.tmp 22) rfl rfl (HR.out.row.keep hk1 (fun _ _ x => x)) (some ⟨wr.heap.size, 0, none⟩) 1 1 (bytesV [fill + UInt8.ofNat k]) rfl
          ⟨rfl, fun _ => ⟨_, rfl, fun j u hu => by rw [addr_add, Nat.zero_add, cell_of_row _ _ _ _ _ _ hnew]; simpa [bytesV] using hu⟩⟩ (bytesV_one _) (by unfold maxLen; omega) (by omega) ?_
        intro v2 w2 hr2 hk2 hv2
        refine hK _ _ ?_
        clear hK K
        rw [← bytesV_append, ← rowL_succ] at hr2
        have hR2 : RowRel w fill (k + 1) v2 w2 := by
          refine ⟨hr2, (HR.out.keep.next hk1 (fun _ _ x => x) (fun _ _ x => x)).next hk2 (H := fun _ => False) (fun _ _ x => x) (fun i hi x => by have := HR.out.own i x; omega), fun j hj => ?_⟩
          rcases hv2 with ⟨_, h0⟩ | ⟨k', h3, h4⟩
          · omega
          · rw [hj] at h3; cases h3
            rcases h4 with h4 | h4
            · exact HR.out.own _ h4
            · have := hk1.size; have := HR.out.keep.size; omega
        have HR2 := hid hR2
        clear hR2 hr2 hk2 hv2 hnew hk1
        go_wp2_with (at_builtin; refine stopAt ?_; intro q hq)
        go_roundw
        case rel => exact ⟨k + 1, by omega, by go_num, HR2⟩
        case measure => simp [intOf]; omega
      · have ek : Hid (k = rowN less) := hid (by omega)
        have fin : ∀ v, RowRel w fill k v wr → ∃ v', Ending.returned v = .returned v' ∧ Fresh w v' (rowL fill (rowN less)) wr := fun v h => ⟨v, rfl, by rw [rowL_length, ← ek.out]; exact h.row, h.keep, h.own⟩
        have Fin := hid fin
        clear fin
        have h1 : 32 ≤ (k : Int) := by rw [ek.out, Hr.out]; decide
        go_wp2_with (at_builtin; refine stopAt ?_; intro q hq)
        go_ret
        exact Fin.out _ HR.out
  · go_enter Try.func10, Try.ntmps10
    go_wp2_with (at_builtin; refine stopAt ?_; intro q hq)
    go_loopw [5, 6] (fun v i wr => ∃ k : Nat, k ≤ rowN less ∧ i = .int .i64 k ∧ Hid (RowRel w fill k v wr)) (fun _ i _ => 32 - (intOf i).toNat)
    case atStart => exact ⟨0, Nat.zero_le _, rfl, hid ⟨Row.nil _ _ _, Keep.refl _ _, by simp [Value.ownBlock]⟩⟩
    case round =>
      obtain ⟨k, hk, rfl, HR⟩ := hrel
      have hk32 : k ≤ 32 := by unfold rowN at hk; split at hk <;> omega
      by_cases hlt : k < rowN less
      · have h1 : k < 32 := by unfold rowN at hlt; split at hlt <;> omega
        have h2 : ((k : Int) != 32 - less) = true := by rw [bne_iff_ne]; unfold rowN at hlt; split at hlt <;> omega
        go_wp2_with (at_builtin; refine stopAt ?_; intro q hq)
        (refine hq.out ?_; clear hq q)
        have hx : Value.int .u8 (((f : Int) + (k : Int)) % 256) = .int .u8 ((fill + UInt8.ofNat k).toNat : Int) := by
          rw [Hf.out, UInt8.toNat_add, UInt8.toNat_ofNat']
          congr 1
          omega
        have hnew : (wr.alloc (.cells #[.int .u8 (((f : Int) + (k : Int)) % 256)] 5)).heap[wr.heap.size]? = some (.cells #[.int .u8 ((fill + UInt8.ofNat k).toNat : Int)] 5) := by rw [← hx]; exact heap_alloc_new wr _
        have hk1 : Keep (fun _ => False) wr (wr.alloc (.cells #[.int .u8 (((f : Int) + (k : Int)) % 256)] 5)) := (Keep.refl _ _).alloc _
        obtain ⟨w1, hw1⟩ : ∃ w1, w1 = wr.alloc (.cells #[.int .u8 (((f : Int) + (k : Int)) % 256)] 5) := ⟨_, rfl⟩
        rw [← hw1] at hnew hk1 ⊢
        clear hw1 hx
        refine wpList_plain rfl (fun K hK => ?_)
        refine wp_append ty_bytes (.tmp 17) (.tmp 22) rfl rfl (HR.out.row.keep hk1 (fun _ _ x => x)) (some ⟨wr.heap.size, 0, none⟩) 1 1 (bytesV [fill + UInt8.ofNat k]) rfl
          ⟨rfl, fun _ => ⟨_, rfl, fun j u hu => by rw [addr_add, Nat.zero_add, cell_of_row _ _ _ _ _ _ hnew]; simpa [bytesV] using hu⟩⟩ (bytesV_one _) (by unfold maxLen; omega) (by omega) ?_
        intro v2 w2 hr2 hk2 hv2
        refine hK _ _ ?_
        clear hK K
        rw [← bytesV_append, ← rowL_succ] at hr2
        have hR2 : RowRel w fill (k + 1) v2 w2 := by
          refine ⟨hr2, (HR.out.keep.next hk1 (fun _ _ x => x) (fun _ _ x => x)).next hk2 (H := fun _ => False) (fun _ _ x => x) (fun i hi x => by have := HR.out.own i x; omega), fun j hj => ?_⟩
          rcases hv2 with ⟨_, h0⟩ | ⟨k', h3, h4⟩
          · omega
          · rw [hj] at h3; cases h3
            rcases h4 with h4 | h4
            · exact HR.out.own _ h4
            · have := hk1.size; have := HR.out.keep.size; omega
        have HR2 := hid hR2
        clear hR2 hr2 hk2 hv2 hnew hk1
        go_wp2_with (at_builtin; refine stopAt ?_; intro q hq)
        go_roundw
        case rel => exact ⟨k + 1, by omega, by go_num, HR2⟩
        case measure => simp [intOf]; omega
      · have ek : Hid (k = rowN less) := hid (by omega)
        have fin : ∀ v, RowRel w fill k v wr → ∃ v', Ending.returned v = .returned v' ∧ Fresh w v' (rowL fill (rowN less)) wr := fun v h => ⟨v, rfl, by rw [rowL_length, ← ek.out]; exact h.row, h.keep, h.own⟩
        have Fin := hid fin
        clear fin
        by_cases hl : 1 ≤ less ∧ less ≤ 32
        · have h2 : ((k : Int) != 32 - less) = false := by rw [bne_eq_false_iff_eq, ek.out]; unfold rowN; rw [if_pos hl]; omega
          have h1 : (k : Int) < 32 := by rw [ek.out]; unfold rowN; rw [if_pos hl]; omega
          go_wp2_with (at_builtin; refine stopAt ?_; intro q hq)
          go_ret
          exact Fin.out _ HR.out
        · have h1 : 32 ≤ (k : Int) := by rw [ek.out]; unfold rowN; rw [if_neg hl]; omega
          go_wp2_with (at_builtin; refine stopAt ?_; intro q hq)
          go_ret
          exact Fin.out _ HR.out
end Go.Proofs.Ytenijbngmdaakaa
