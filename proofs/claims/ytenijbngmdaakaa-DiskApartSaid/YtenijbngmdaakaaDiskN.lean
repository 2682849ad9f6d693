/- The program's disk: New and Clone. Conditions: as the contracts name them. -/
import Derived.Test.YtenijbngmdaakaaDisk
namespace Go.Proofs.Ytenijbngmdaakaa
open Go.RowKit
open DM

theorem blank_flat : ∀ n, (List.replicate n DM.blank).flatten = List.replicate (n * 32) (0 : UInt8)
  | 0 => by simp
  | n + 1 => by
    rw [List.replicate_succ, List.flatten_cons, blank_flat n]
    apply List.ext_getElem
    · simp [DM.blank]; omega
    · intro i h1 h2
      rw [List.getElem_replicate, List.getElem_append]
      split
      · unfold DM.blank; exact List.getElem_replicate _
      · exact List.getElem_replicate _

theorem new_rows (n : Nat) : (madeCells secZero.cells (n * 32)).toList = bytesV (List.replicate n DM.blank).flatten := by
  rw [madeCells_alike _ (.int .u8 0) (fun i hi => by simp [secZero, Value.cells] at hi ⊢; simp [hi]) (by simp [secZero, Value.cells]), blank_flat]
  simp [bytesV]

theorem push3 {α : Type} (h : Array α) (a b c : α) : (((h.push a).push b).push c)[h.size]? = some a ∧ (((h.push a).push b).push c)[h.size + 1]? = some b ∧ (((h.push a).push b).push c)[h.size + 2]? = some c := by
  refine ⟨?_, ?_, ?_⟩
  · rw [Array.getElem?_push, if_neg (by simp; omega), Array.getElem?_push, if_neg (by simp), Array.getElem?_push, if_pos rfl]
  · rw [Array.getElem?_push, if_neg (by simp), Array.getElem?_push, if_pos (by simp)]
  · rw [Array.getElem?_push, if_pos (by simp)]

def newCells (n : Nat) : Array Value := madeCells secZero.cells (n * 32)

theorem new_none (w : World) (s : Int) (h : s < 1 ∨ 2048 < s) : Calls Try.prog 9 #[.int .i64 s] w fun e w' => e = .returned (.tuple #[.pointer none, .int .i64 2]) ∧ w = w' := by
  rcases h with h | h
  · go_enter Try.func9, Try.ntmps9
    go_wp2
    go_ret2
    exact ⟨rfl, rfl⟩
  · have h' : ¬ s < 1 := by omega
    go_enter Try.func9, Try.ntmps9
    go_wp2
    go_ret2
    exact ⟨rfl, rfl⟩

set_option maxHeartbeats 1000000 in
theorem new_any (w : World) (n : Nat) (h0 : 0 < n) (h1 : n ≤ 2048) :
    Calls Try.prog 9 #[.int .i64 (n : Int)] w fun e w' => ∃ b F, e = .returned (.tuple #[.pointer (some ⟨b, 0, none⟩), .int .i64 0]) ∧ DiskAt w' b F (DM.new n) ∧ Keep (fun _ => False) w w' ∧ ∀ k, F k → w.heap.size ≤ k := by
  have c1 : ¬ (n : Int) < 1 := by omega
  have c2 : ¬ 2048 < (n : Int) := by omega
  have hmk : ∀ wx : World, (Instr.makeSlice 59 (.int .i64 (n : Int)) (.int .i64 (n : Int))).run Try.prog wx = .ok (.slice (some ⟨wx.heap.size, 0, none⟩) n n) (wx.alloc (.cells (newCells n) 64)) :=
    fun wx => run_make_n (P := Try.prog) ty_sectors .i64 .i64 n (by omega) (by unfold maxLen; omega) wx
  have fin : ∀ (gs gn : Nat), (gs = w.heap.size ∧ gn = w.heap.size + 1 ∨ gs = w.heap.size + 1 ∧ gn = w.heap.size) → ∀ (w' : World) (e : Ending),
      w'.heap = ((w.heap.push (.cells (newCells n) 64)).push (.cells (newCells n) 64)).push (.cells #[.slice (some ⟨gs, 0, none⟩) n n, .slice (some ⟨gn, 0, none⟩) n n, .slice none 0 0, .bool false, .int .i64 0, .bool false] 62) →
      w'.os = w.os → w'.tape = w.tape → w'.output = w.output → e = .returned (.tuple #[.pointer (some ⟨w.heap.size + 1 + 1, 0, none⟩), .int .i64 0]) →
      ∃ b F, e = .returned (.tuple #[.pointer (some ⟨b, 0, none⟩), .int .i64 0]) ∧ DiskAt w' b F (DM.new n) ∧ Keep (fun _ => False) w w' ∧ ∀ k, F k → w.heap.size ≤ k := by
    intro gs gn hg w' e hh ho ht hp he
    have hsz : w'.heap.size = w.heap.size + 3 := by rw [hh]; simp
    have b0 : w'.heap[w.heap.size]? = some (.cells (newCells n) 64 (0, 0)) := by rw [hh]; exact (push3 _ _ _ _).1
    have b1 : w'.heap[w.heap.size + 1]? = some (.cells (newCells n) 64 (0, 0)) := by rw [hh]; exact (push3 _ _ _ _).2.1
    have b2 : w'.heap[w.heap.size + 2]? = some (.cells #[.slice (some ⟨gs, 0, none⟩) n n, .slice (some ⟨gn, 0, none⟩) n n, .slice none 0 0, .bool false, .int .i64 0, .bool false] 62 (0, 0)) := by rw [hh]; exact (push3 _ _ _ _).2.2
    have bs : w'.heap[gs]? = some (.cells (newCells n) 64 (0, 0)) := by rcases hg with ⟨rfl, rfl⟩ | ⟨rfl, rfl⟩ <;> assumption
    have bn : w'.heap[gn]? = some (.cells (newCells n) 64 (0, 0)) := by rcases hg with ⟨rfl, rfl⟩ | ⟨rfl, rfl⟩ <;> assumption
    have hm : n ≤ maxLen := by unfold maxLen; omega
    have nl : (DM.new n).safe.length = n := by simp [DM.new]
    have r : ∀ g, w'.heap[g]? = some (.cells (newCells n) 64 (0, 0)) → Row w' 64 32 (.slice (some ⟨g, 0, none⟩) n n) n (bytesV (List.replicate n DM.blank).flatten) := by
      intro g hg
      rw [← new_rows]
      exact Row.made hg hm
    refine ⟨w.heap.size + 2, fun k => w.heap.size ≤ k ∧ k < w.heap.size + 3, he, ⟨_, _, _, b2, ?_, ?_, Row.nil _ _ _, ⟨by omega, ?_, ?_, ?_, fun k hk => by omega⟩, Ok.new h0 h1⟩, ⟨ho, ht, hp, by omega, ?_⟩, fun k hk => hk.1⟩
    · rw [nl]; exact r _ bs
    · rw [nl]; exact r _ bn
    · intro k hk; simp [Value.ownBlock] at hk; omega
    · intro k hk; simp [Value.ownBlock] at hk ⊢; omega
    · intro k hk; simp [Value.ownBlock] at hk
    · intro k hk _
      rw [hh, Array.getElem?_push, if_neg (by simp; omega), Array.getElem?_push, if_neg (by simp; omega), Array.getElem?_push, if_neg (by omega)]
  have Fin := hid fin
  clear fin
  go_enter Try.func9, Try.ntmps9
  go_wp2
  go_region
  all_goals (go_wp2; go_ret2)
  all_goals (first | exact Fin.out _ _ (.inr ⟨rfl, rfl⟩) _ _ rfl rfl rfl rfl rfl | exact Fin.out _ _ (.inl ⟨rfl, rfl⟩) _ _ rfl rfl rfl rfl rfl)

theorem nil_clone (w : World) : Calls Try.prog 24 #[.pointer none] w fun e w' => e = .returned (.pointer none) ∧ w = w' := by
  go_enter Try.func24, Try.ntmps24
  go_wp2
  go_ret
  exact ⟨rfl, rfl⟩

set_option maxHeartbeats 1000000 in
theorem clone_any (w : World) (b : Nat) (F : Nat → Prop) (D : Dk) (hD : DiskAt w b F D) (hfew : D.waits.length ≤ 1000000) :
    Calls Try.prog 24 #[.pointer (some ⟨b, 0, none⟩)] w fun e w' => ∃ b' F', e = .returned (.pointer (some ⟨b', 0, none⟩)) ∧ DiskAt w' b' F' D ∧ Keep (fun _ => False) w w' ∧ ∀ k, F' k → w.heap.size ≤ k := by
  obtain ⟨vs1, vn1, vw1, hI1⟩ := hD
  have hpos := hI1.ok.pos
  have hfewS := hI1.ok.few
  have hh1 := hI1.head
  unfold diskCells at hh1
  obtain ⟨g0, cap0, cur0, fz0, rfl, -⟩ := hI1.safe.some hpos
  obtain ⟨g1, cap1, cur1, fz1, rfl, -⟩ := hI1.now.some hpos
  obtain ⟨adw, capw, rfl, hwcap, hwmax, -⟩ := hI1.waits.form
  obtain ⟨i0, i1, i2, i3, i4, i5, if1, ib1⟩ := cells6 hh1
  have HI1 := hid hI1
  have Hh1 := hid hh1
  clear hI1 hh1
  go_enter Try.func24, Try.ntmps24
  go_wp2_with (at_builtin; refine stopAt ?_; intro q hq)
  (refine hq.out ?_; clear hq q)
  -- the head's copy, the first row
  have hX : (((w.alloc (Obj.cells #[.slice (some ⟨g0, 0, none⟩) D.safe.length cap0, .slice (some ⟨g1, 0, none⟩) D.safe.length cap1, .slice adw D.waits.length capw, .bool D.left.isSome, .int .i64 (D.left.getD 0 : Nat), .bool D.down] 62)).alloc (.cells #[] 64))).heap[w.heap.size]? = some (.cells (diskCells (.slice (some ⟨g0, 0, none⟩) D.safe.length cap0) (.slice (some ⟨g1, 0, none⟩) D.safe.length cap1) (.slice adw D.waits.length capw) D) 62 (0, 0)) := heap_alloc2_old w _ _
  have hF1 := Row.fresh (w.alloc (Obj.cells #[.slice (some ⟨g0, 0, none⟩) D.safe.length cap0, .slice (some ⟨g1, 0, none⟩) D.safe.length cap1, .slice adw D.waits.length capw, .bool D.left.isSome, .int .i64 (D.left.getD 0 : Nat), .bool D.down] 62)) 64 32
  have hk1 : Keep (fun _ => False) w ((w.alloc (Obj.cells #[.slice (some ⟨g0, 0, none⟩) D.safe.length cap0, .slice (some ⟨g1, 0, none⟩) D.safe.length cap1, .slice adw D.waits.length capw, .bool D.left.isSome, .int .i64 (D.left.getD 0 : Nat), .bool D.down] 62)).alloc (.cells #[] 64)) := ((Keep.refl _ _).alloc _).alloc _
  obtain ⟨w1, hw1⟩ : ∃ w1, w1 = ((w.alloc (Obj.cells #[.slice (some ⟨g0, 0, none⟩) D.safe.length cap0, .slice (some ⟨g1, 0, none⟩) D.safe.length cap1, .slice adw D.waits.length capw, .bool D.left.isSome, .int .i64 (D.left.getD 0 : Nat), .bool D.down] 62)).alloc (.cells #[] 64)) := ⟨_, rfl⟩
  rw [← hw1] at hX hF1 hk1 ⊢
  clear hw1 i0 i1 i2 i3 i4 i5 if1 ib1
  rw [show (w.alloc (Obj.cells #[.slice (some ⟨g0, 0, none⟩) D.safe.length cap0, .slice (some ⟨g1, 0, none⟩) D.safe.length cap1, .slice adw D.waits.length capw, .bool D.left.isSome, .int .i64 (D.left.getD 0 : Nat), .bool D.down] 62)).heap.size = w.heap.size + 1 by simp] at hF1
  have hne : b ≠ w.heap.size := by have := heap_lt Hh1.out; omega
  have hbl : b < w.heap.size := heap_lt Hh1.out
  have Hne := hid hne
  clear hne
  refine wpList_plain rfl (fun K hK => ?_)
  refine wp_append (v := .slice (some ⟨w.heap.size + 1, 0, none⟩) 0 0) (n := 0) ty_sectors (.tmp 9) (.tmp 13) rfl rfl hF1 (some ⟨g0, 0, none⟩) D.safe.length cap0 (bytesV D.safe.flatten) rfl
    (Cells.of_row (HI1.out.safe.keep hk1 (fun _ _ x => x))) (bytesV_one _) (by unfold maxLen; omega) (by omega) ?_
  intro v2 w2 hr2 hk2 hv2
  rw [Nat.zero_add, List.nil_append] at hr2
  refine hK _ _ ?_
  clear hK K hF1
  obtain ⟨ad2, cap2, rfl, -⟩ := hr2.form
  have k02 : Keep (fun _ => False) w w2 := hk1.next hk2 (fun _ _ x => x) (fun i hi x => by simp [Value.ownBlock] at x; omega)
  have hX2 := hk2.get hX (by simp [Value.ownBlock])
  have hh2 := k02.get Hh1.out id
  obtain ⟨i0, i1, i2, i3, i4, i5, if1, ib1⟩ := cells6 hh2
  unfold diskCells at hX2
  obtain ⟨x0, x1, x2, x3, x4, x5, xf, xb⟩ := cells6 hX2
  have own2 : ∀ k, (Value.slice ad2 D.safe.length cap2).ownBlock = some k → w.heap.size < k ∧ k < w2.heap.size := by
    intro k hk
    refine ⟨?_, hr2.lt hk⟩
    rcases hv2 with ⟨_, h0⟩ | ⟨k', h1, h2⟩
    · omega
    · rw [hk] at h1; cases h1
      have := hk1.size
      have := heap_lt hX
      rcases h2 with h2 | h2
      · simp [Value.ownBlock] at h2; omega
      · omega
  have Hr2 := hid hr2
  have HX2 := hid hX2
  have Own2 := hid own2
  clear hr2 hX2 hh2 own2 hv2 hX hk1 hk2
  go_wp2_with (at_builtin; refine stopAt ?_; intro q hq)
  (refine hq.out ?_; clear hq q)
  have hY := heap_setCell6 HX2.out 0 (.slice ad2 D.safe.length cap2)
  have hkY : Keep (fun k => k = w.heap.size) w2 ((w2.setCell ⟨w.heap.size, 0, none⟩ (.slice ad2 D.safe.length cap2)).alloc (.cells #[] 64)) := by
    refine Keep.alloc (Keep.setCell (Keep.refl _ _) (.inl ?_) _) _; rfl
  have hY2 : ((w2.setCell ⟨w.heap.size, 0, none⟩ (.slice ad2 D.safe.length cap2)).alloc (.cells #[] 64)).heap[w.heap.size]? = _ := (Below.heap_alloc _ _ _ (heap_lt hY)).trans hY
  have hF2 := Row.fresh (w2.setCell ⟨w.heap.size, 0, none⟩ (.slice ad2 D.safe.length cap2)) 64 32
  rw [show (w2.setCell ⟨w.heap.size, 0, none⟩ (.slice ad2 D.safe.length cap2)).heap.size = w2.heap.size by simp [World.setCell]] at hF2
  obtain ⟨w3, hw3⟩ : ∃ w3, w3 = (w2.setCell ⟨w.heap.size, 0, none⟩ (.slice ad2 D.safe.length cap2)).alloc (.cells #[] 64) := ⟨_, rfl⟩
  rw [← hw3] at hY2 hkY hF2 ⊢
  clear hw3 hY i0 i1 i2 i3 i4 i5 if1 ib1 x0 x1 x2 x3 x4 x5 xf xb
  have e2 : (#[.slice (some ⟨g0, 0, none⟩) D.safe.length cap0, .slice (some ⟨g1, 0, none⟩) D.safe.length cap1, .slice adw D.waits.length capw, .bool D.left.isSome, .int .i64 (D.left.getD 0 : Nat), .bool D.down] : Array Value).setIfInBounds 0 (.slice ad2 D.safe.length cap2) =
      #[.slice ad2 D.safe.length cap2, .slice (some ⟨g1, 0, none⟩) D.safe.length cap1, .slice adw D.waits.length capw, .bool D.left.isSome, .int .i64 (D.left.getD 0 : Nat), .bool D.down] := rfl
  rw [e2] at hY2
  have k03 : Keep (fun _ => False) w w3 := k02.next hkY (fun _ _ x => x) (fun i hi x => by omega)
  refine wpList_plain rfl (fun K hK => ?_)
  refine wp_append (v := .slice (some ⟨w2.heap.size, 0, none⟩) 0 0) (n := 0) ty_sectors (.tmp 16) (.tmp 20) rfl rfl hF2 (some ⟨g1, 0, none⟩) D.safe.length cap1 (bytesV (DM.now D).flatten) rfl
    (Cells.of_row (HI1.out.now.keep k03 (fun _ _ x => x))) (bytesV_one _) (by unfold maxLen; omega) (by omega) ?_
  intro v4 w4 hr4 hk4 hv4
  rw [Nat.zero_add, List.nil_append] at hr4
  refine hK _ _ ?_
  clear hK K hF2
  obtain ⟨ad4, cap4, rfl, -⟩ := hr4.form
  have hz2 : w.heap.size < w2.heap.size := heap_lt HX2.out
  have hz3 : w2.heap.size ≤ w3.heap.size := hkY.size
  have k04 : Keep (fun _ => False) w w4 := k03.next hk4 (fun _ _ x => x) (fun i hi x => by simp [Value.ownBlock] at x; omega)
  have hX4 := hk4.get hY2 (fun x => by simp [Value.ownBlock] at x; omega)
  have hh4 := k04.get Hh1.out id
  obtain ⟨i0, i1, i2, i3, i4, i5, if1, ib1⟩ := cells6 hh4
  obtain ⟨x0, x1, x2, x3, x4, x5, xf, xb⟩ := cells6 hX4
  have own4 : ∀ k, (Value.slice ad4 D.safe.length cap4).ownBlock = some k → w2.heap.size ≤ k ∧ k < w4.heap.size := by
    intro k hk
    refine ⟨?_, hr4.lt hk⟩
    rcases hv4 with ⟨_, h0⟩ | ⟨k', h1, h2⟩
    · omega
    · rw [hk] at h1; cases h1
      rcases h2 with h2 | h2
      · simp [Value.ownBlock] at h2; omega
      · omega
  have k24 : Keep (fun k => k = w.heap.size) w2 w4 := hkY.next hk4 (fun _ _ x => x) (fun i hi x => by simp [Value.ownBlock] at x; omega)
  have Hr4 := hid hr4
  have HX4 := hid hX4
  have Own4 := hid own4
  have K24 := hid k24
  clear hr4 hX4 hh4 own4 hv4 hY2 hkY hk4 k03 k02 e2 k24
  go_wp2_with (at_builtin; refine stopAt ?_; intro q hq)
  (refine hq.out ?_; clear hq q)
  have hY := heap_setCell6 HX4.out 1 (.slice ad4 D.safe.length cap4)
  have hkY : Keep (fun k => k = w.heap.size) w4 ((w4.setCell ⟨w.heap.size, 1, none⟩ (.slice ad4 D.safe.length cap4)).alloc (.cells #[] 66)) := by
    refine Keep.alloc (Keep.setCell (Keep.refl _ _) (.inl ?_) _) _; rfl
  have hY2 : ((w4.setCell ⟨w.heap.size, 1, none⟩ (.slice ad4 D.safe.length cap4)).alloc (.cells #[] 66)).heap[w.heap.size]? = _ := (Below.heap_alloc _ _ _ (heap_lt hY)).trans hY
  have hF2 := Row.fresh (w4.setCell ⟨w.heap.size, 1, none⟩ (.slice ad4 D.safe.length cap4)) 66 33
  rw [show (w4.setCell ⟨w.heap.size, 1, none⟩ (.slice ad4 D.safe.length cap4)).heap.size = w4.heap.size by simp [World.setCell]] at hF2
  obtain ⟨w5, hw5⟩ : ∃ w5, w5 = (w4.setCell ⟨w.heap.size, 1, none⟩ (.slice ad4 D.safe.length cap4)).alloc (.cells #[] 66) := ⟨_, rfl⟩
  rw [← hw5] at hY2 hkY hF2 ⊢
  clear hw5 hY i0 i1 i2 i3 i4 i5 if1 ib1 x0 x1 x2 x3 x4 x5 xf xb
  have e2 : (#[.slice ad2 D.safe.length cap2, .slice (some ⟨g1, 0, none⟩) D.safe.length cap1, .slice adw D.waits.length capw, .bool D.left.isSome, .int .i64 (D.left.getD 0 : Nat), .bool D.down] : Array Value).setIfInBounds 1 (.slice ad4 D.safe.length cap4) =
      #[.slice ad2 D.safe.length cap2, .slice ad4 D.safe.length cap4, .slice adw D.waits.length capw, .bool D.left.isSome, .int .i64 (D.left.getD 0 : Nat), .bool D.down] := rfl
  rw [e2] at hY2
  have k05 : Keep (fun _ => False) w w5 := k04.next hkY (fun _ _ x => x) (fun i hi x => by omega)
  refine wpList_plain rfl (fun K hK => ?_)
  refine wp_append (v := .slice (some ⟨w4.heap.size, 0, none⟩) 0 0) (n := 0) ty_waits (.tmp 23) (.tmp 27) rfl rfl hF2 adw D.waits.length capw (waitsV D.waits) rfl
    (Cells.of_row (HI1.out.waits.keep k05 (fun _ _ x => x))) (waitsV_one _) (by unfold maxLen; omega) (by omega) ?_
  intro v6 w6 hr6 hk6 hv6
  rw [Nat.zero_add, List.nil_append] at hr6
  refine hK _ _ ?_
  clear hK K hF2
  obtain ⟨ad6, cap6, rfl, -⟩ := hr6.form
  have hz4 : w2.heap.size ≤ w4.heap.size := K24.out.size
  have hz5 : w4.heap.size ≤ w5.heap.size := hkY.size
  have k06 : Keep (fun _ => False) w w6 := k05.next hk6 (fun _ _ x => x) (fun i hi x => by simp [Value.ownBlock] at x; omega)
  have hX6 := hk6.get hY2 (fun x => by simp [Value.ownBlock] at x; omega)
  have hh6 := k06.get Hh1.out id
  obtain ⟨i0, i1, i2, i3, i4, i5, if1, ib1⟩ := cells6 hh6
  obtain ⟨x0, x1, x2, x3, x4, x5, xf, xb⟩ := cells6 hX6
  have own6 : ∀ k, (Value.slice ad6 D.waits.length cap6).ownBlock = some k → w4.heap.size ≤ k ∧ k < w6.heap.size := by
    intro k hk
    refine ⟨?_, hr6.lt hk⟩
    rcases hv6 with ⟨h0, _⟩ | ⟨k', h1, h2⟩
    · rw [h0] at hk; simp [Value.ownBlock] at hk; omega
    · rw [hk] at h1; cases h1
      rcases h2 with h2 | h2
      · simp [Value.ownBlock] at h2; omega
      · omega
  have k46 : Keep (fun k => k = w.heap.size) w4 w6 := hkY.next hk6 (fun _ _ x => x) (fun i hi x => by simp [Value.ownBlock] at x; omega)
  have Hr6 := hid hr6
  have HX6 := hid hX6
  have Own6 := hid own6
  have K46 := hid k46
  clear hr6 hX6 hh6 own6 hv6 hY2 hkY hk6 k05 e2 k46
  go_wp2_with (at_builtin; refine stopAt ?_; intro q hq)
  go_ret
  have hk7 : Keep (fun k => k = w.heap.size) w6 (w6.setCell ⟨w.heap.size, 2, none⟩ (.slice ad6 D.waits.length cap6)) := by refine Keep.setCell (Keep.refl _ _) (.inl ?_) _; rfl
  have hh7 := heap_setCell6 HX6.out 2 (.slice ad6 D.waits.length cap6)
  obtain ⟨w7, hw7⟩ : ∃ w7, w7 = w6.setCell ⟨w.heap.size, 2, none⟩ (.slice ad6 D.waits.length cap6) := ⟨_, rfl⟩
  rw [← hw7] at hk7 hh7 ⊢
  have k47 : Keep (fun k => k = w.heap.size) w4 w7 := K46.out.next hk7 (fun _ _ x => x) (fun _ _ x => x)
  have k27 : Keep (fun k => k = w.heap.size) w2 w7 := K24.out.next k47 (fun _ _ x => x) (fun _ _ x => x)
  have k07 : Keep (fun _ => False) w w7 := k06.next hk7 (fun _ _ x => x) (fun i hi x => by omega)
  have hz6 : w4.heap.size ≤ w6.heap.size := K46.out.size
  have hz7 : w6.heap.size ≤ w7.heap.size := hk7.size
  refine ⟨w.heap.size, fun k => w.heap.size ≤ k ∧ k < w7.heap.size, rfl, ⟨_, _, _, hh7, ?_, ?_, ?_, ⟨by omega, ?_, ?_, ?_, fun k hk => hk.2⟩, HI1.out.ok⟩, k07, fun k hk => hk.1⟩
  · exact Hr2.out.keep k27 fun k e x => by have := Own2.out k e; omega
  · exact Hr4.out.keep k47 fun k e x => by have := Own4.out k e; omega
  · exact Hr6.out.keep hk7 fun k e x => by have := Own6.out k e; omega
  · intro k e
    have := Own2.out k e
    omega
  · intro k e
    have := Own4.out k e
    refine ⟨by omega, by omega, fun e2 => ?_⟩
    have := Own2.out k e2
    omega
  · intro k e
    have := Own6.out k e
    refine ⟨by omega, by omega, fun e2 => ?_, fun e2 => ?_⟩
    · have := Own2.out k e2; omega
    · have := Own4.out k e2; omega
end Go.Proofs.Ytenijbngmdaakaa
