/- The document's disk: a contract for Clone. Conditions: as the contract names them. -/
import Derived.Test.YtenijbngmdaakaaRefN
import Derived.Test.YtenijbngmdaakaaDbg
namespace Go.Proofs.Ytenijbngmdaakaa
open Go.RowKit
open DM

theorem secsV_one (l : List Sec) : ∀ u ∈ secsV l, u.oneCell' = true := by
  intro u hu
  simp only [secsV, List.mem_map] at hu
  obtain ⟨s, _, rfl⟩ := hu
  rfl
theorem putsV_one (l : List (Nat × Sec)) : ∀ u ∈ putsV l, u.oneCell' = true := by
  intro u hu
  simp only [putsV, List.mem_flatMap, putV, List.mem_cons, List.not_mem_nil, or_false] at hu
  obtain ⟨p, _, rfl | rfl⟩ := hu <;> rfl

set_option maxHeartbeats 1000000 in
theorem ref_clone (w : World) (b : Nat) (F : Nat → Prop) (D : Dk) (hD : RefAt w b F D) (hfew : D.waits.length ≤ 1000000) :
    Calls Try.prog 25 #[.pointer (some ⟨b, 0, none⟩)] w fun e w' => ∃ b' F', e = .returned (.pointer (some ⟨b', 0, none⟩)) ∧ RefAt w' b' F' D ∧ Keep (fun _ => False) w w' ∧ ∀ k, F' k → w.heap.size ≤ k := by
  obtain ⟨vs1, vw1, hI1⟩ := hD
  have hpos := hI1.ok.pos
  have hfewS := hI1.ok.few
  have hh1 := hI1.head
  unfold refCells at hh1
  obtain ⟨ad0, cap0, rfl, -⟩ := hI1.safe.form
  obtain ⟨adw, capw, rfl, -⟩ := hI1.waits.form
  obtain ⟨i0, i1, i2, i3, if1, ib1⟩ := cells4 hh1
  have HI1 := hid hI1
  have Hh1 := hid hh1
  clear hI1 hh1
  go_enter Try.func25, Try.ntmps25
  go_wp2_with (at_builtin; refine stopAt ?_; intro q hq)
  refine wp_region_canon [] (by kernel_rfl) (by kernel_rfl) ?_
  repeat (first | (apply wpC_pure (by rfl); (intro K w'; go_simp; exact id)) | (apply wpC_load (by rfl); (intro K; go_simp; exact id)))
  (refine wpC_new (by rfl) (by rfl) (fun K hK => ?_); go_simp; refine hK _ _ (Pre.push _ rfl) ?_; clear hK K)
  repeat (apply wpC_pure (by rfl); (intro K w'; go_simp; exact id))
  refine wpC_nil ?_
  have hX := heap_alloc_new w (.cells #[.slice none 0 0, .slice none 0 0, .int .i64 (leftV D.left), .bool D.down] 70)
  have hk1 : Keep (fun _ => False) w (w.alloc (.cells #[.slice none 0 0, .slice none 0 0, .int .i64 (leftV D.left), .bool D.down] 70)).drew := ((Keep.refl _ _).alloc _).drew
  obtain ⟨w1, hw1⟩ : ∃ w1, w1 = (w.alloc (.cells #[.slice none 0 0, .slice none 0 0, .int .i64 (leftV D.left), .bool D.down] 70)).drew := ⟨_, rfl⟩
  have hX1 : w1.heap[w.heap.size]? = some (.cells #[.slice none 0 0, .slice none 0 0, .int .i64 (leftV D.left), .bool D.down] 70 (0, 0)) := by rw [hw1]; exact hX
  rw [← hw1] at hk1 ⊢
  clear hw1 hX i0 i1 i2 i3 if1 ib1
  have hbl : b < w.heap.size := heap_lt Hh1.out
  obtain ⟨i0, i1, i2, i3, if1, ib1⟩ := cells4 (hk1.get Hh1.out id)
  obtain ⟨x0, x1, x2, x3, xf, xb⟩ := cells4 hX1
  have HX1 := hid hX1
  have Hk1 := hid hk1
  clear hX1 hk1
  go_wp2_with (at_builtin; refine stopAt ?_; intro q hq)
  refine wp_region_canon [] (by kernel_rfl) (by kernel_rfl) ?_
  repeat (first | (apply wpC_pure (by rfl); (intro K w'; go_simp; exact id)) | (apply wpC_load (by rfl); (intro K; go_simp; exact id)))
  have hs1 := HI1.out.safe.keep Hk1.out (fun _ _ x => x)
  refine wpC_act (by rfl) (by rfl) (fun K hK => ?_)
  refine wp_append (v := .slice none 0 0) (n := 0) ty_strings (.tmp 18) (.tmp 22) rfl rfl ((Row.nil w1 9 1).keep (F := fun _ => False) (Keep.refl _ _).drew (fun _ _ x => x)) ad0 D.safe.length cap0 (secsV D.safe) rfl
    (Cells.of_row (hs1.keep (F := fun _ => False) (Keep.refl _ _).drew (fun _ _ x => x))) (secsV_one _) (by unfold maxLen; omega) (by omega) ?_
  intro v2 w2 hr2 hk2 hv2
  rw [Nat.zero_add, List.nil_append] at hr2
  refine hK _ _ ?_
  clear hK K hs1
  have hsz1 : w.heap.size < w1.heap.size := heap_lt HX1.out
  have k1d : Keep (fun _ => False) w1 w1.drew := (Keep.refl _ _).drew
  have k12 : Keep (fun _ => False) w1 w2 := k1d.next hk2 (fun _ _ x => x) (fun i _ x => by simp [Value.ownBlock] at x)
  have k02 : Keep (fun _ => False) w w2 := Hk1.out.next k12 (fun _ _ x => x) (fun _ _ x => x)
  have hX2 := k12.get HX1.out id
  have own2 : ∀ k, v2.ownBlock = some k → w.heap.size < k := by
    intro k hk
    rcases hv2 with ⟨e, _⟩ | ⟨k', h1, h2⟩
    · rw [e] at hk; simp [Value.ownBlock] at hk
    · rw [hk] at h1; cases h1
      rcases h2 with h2 | h2
      · simp [Value.ownBlock] at h2
      · have : w1.drew.heap.size = w1.heap.size := rfl
        omega
  clear i0 i1 i2 i3 if1 ib1 x0 x1 x2 x3 xf xb hk2 hv2
  obtain ⟨ad2, cap2, rfl, -⟩ := hr2.form
  obtain ⟨i0, i1, i2, i3, if1, ib1⟩ := cells4 (k02.get Hh1.out id)
  obtain ⟨x0, x1, x2, x3, xf, xb⟩ := cells4 hX2
  have HY := hid (And.intro hr2 (And.intro hX2 (And.intro own2 k02)))
  clear hr2 hX2 own2 k02 k12 k1d
  repeat (apply wpC_pure (by rfl); (intro K w'; go_simp; exact id))
  (refine wpC_act (by rfl) (by rfl) (fun K hK => ?_); go_simp; refine hK _ _ ?_; clear hK K)
  refine wpC_nil ?_
  have hY := heap_setCell6 HY.out.2.1 0 (.slice ad2 D.safe.length cap2)
  have hkY : Keep (fun k => k = w.heap.size) w2 (w2.setCell ⟨w.heap.size, 0, none⟩ (.slice ad2 D.safe.length cap2)) := by refine Keep.setCell (Keep.refl _ _) (.inl ?_) _; rfl
  obtain ⟨w3, hw3⟩ : ∃ w3, w3 = w2.setCell ⟨w.heap.size, 0, none⟩ (.slice ad2 D.safe.length cap2) := ⟨_, rfl⟩
  rw [← hw3] at hY hkY ⊢
  clear hw3 i0 i1 i2 i3 if1 ib1 x0 x1 x2 x3 xf xb
  obtain ⟨hr2, hX2, own2, k02⟩ := HY.out
  have hr3 := hr2.keep hkY (fun k e x => by have := own2 k e; omega)
  have k03 : Keep (fun _ => False) w w3 := k02.next hkY (fun _ _ x => x) (fun i hi x => by omega)
  obtain ⟨i0, i1, i2, i3, if1, ib1⟩ := cells4 (k03.get Hh1.out id)
  obtain ⟨x0, x1, x2, x3, xf, xb⟩ := cells4 hY
  have hs3 := HI1.out.waits.keep k03 (fun _ _ x => x)
  have HZ := hid (And.intro hr3 (And.intro hY (And.intro own2 k03)))
  clear hr2 hX2 own2 k02 hkY hr3 k03 hY HY
  go_wp2_with (at_builtin; refine stopAt ?_; intro q hq)
  refine wp_region_canon [] (by kernel_rfl) (by kernel_rfl) ?_
  repeat (first | (apply wpC_pure (by rfl); (intro K w'; go_simp; exact id)) | (apply wpC_load (by rfl); (intro K; go_simp; exact id)))
  refine wpC_act (by rfl) (by rfl) (fun K hK => ?_)
  refine wp_append (v := .slice none 0 0) (n := 0) ty_puts (.tmp 30) (.tmp 34) rfl rfl ((Row.nil w3 77 2).keep (F := fun _ => False) (Keep.refl _ _).drew (fun _ _ x => x)) adw D.waits.length capw (putsV D.waits) rfl
    (Cells.of_row (hs3.keep (F := fun _ => False) (Keep.refl _ _).drew (fun _ _ x => x))) (putsV_one _) (by unfold maxLen; omega) (by omega) ?_
  intro v4 w4 hr4 hk4 hv4
  rw [Nat.zero_add, List.nil_append] at hr4
  refine hK _ _ ?_
  clear hK K hs3
  have hsz3 : w.heap.size < w3.heap.size := heap_lt HZ.out.2.1
  have k3d : Keep (fun _ => False) w3 w3.drew := (Keep.refl _ _).drew
  have k34 : Keep (fun _ => False) w3 w4 := k3d.next hk4 (fun _ _ x => x) (fun i _ x => by simp [Value.ownBlock] at x)
  have hX4 := k34.get HZ.out.2.1 id
  have own4 : ∀ k, v4.ownBlock = some k → w3.heap.size ≤ k := by
    intro k hk
    rcases hv4 with ⟨e, _⟩ | ⟨k', h1, h2⟩
    · rw [e] at hk; simp [Value.ownBlock] at hk
    · rw [hk] at h1; cases h1
      rcases h2 with h2 | h2
      · simp [Value.ownBlock] at h2
      · have : w3.drew.heap.size = w3.heap.size := rfl
        omega
  clear i0 i1 i2 i3 if1 ib1 x0 x1 x2 x3 xf xb hk4 hv4
  obtain ⟨ad4, cap4, rfl, -⟩ := hr4.form
  obtain ⟨x0, x1, x2, x3, xf, xb⟩ := cells4 hX4
  have HY := hid (And.intro hr4 (And.intro hX4 (And.intro own4 k34)))
  clear hr4 hX4 own4 k34 k3d
  repeat (apply wpC_pure (by rfl); (intro K w'; go_simp; exact id))
  (refine wpC_act (by rfl) (by rfl) (fun K hK => ?_); go_simp; refine hK _ _ ?_; clear hK K)
  refine wpC_nil ?_
  obtain ⟨hr4, hX4, own4, k34⟩ := HY.out
  obtain ⟨hr3, -, own2, k03⟩ := HZ.out
  have hY := heap_setCell6 hX4 1 (.slice ad4 D.waits.length cap4)
  have hkY : Keep (fun k => k = w.heap.size) w4 (w4.setCell ⟨w.heap.size, 1, none⟩ (.slice ad4 D.waits.length cap4)) := by refine Keep.setCell (Keep.refl _ _) (.inl ?_) _; rfl
  obtain ⟨w5, hw5⟩ : ∃ w5, w5 = w4.setCell ⟨w.heap.size, 1, none⟩ (.slice ad4 D.waits.length cap4) := ⟨_, rfl⟩
  rw [← hw5] at hY hkY ⊢
  clear hw5 x0 x1 x2 x3 xf xb
  have hr5 := hr4.keep hkY (fun k e x => by have := own4 k e; omega)
  have hr35 := (hr3.keep k34 (fun _ _ x => x)).keep hkY (fun k e x => by have := own2 k e; omega)
  have k05 : Keep (fun _ => False) w w5 := (k03.next k34 (fun _ _ x => x) (fun _ _ x => x)).next hkY (fun _ _ x => x) (fun i hi x => by omega)
  have hself : w.heap.size < w5.heap.size := heap_lt hY
  have fin : ∃ F', RefAt w5 w.heap.size F' D ∧ ∀ k, F' k → w.heap.size ≤ k := by
    refine ⟨fun k => k = w.heap.size ∨ (Value.slice ad2 D.safe.length cap2).ownBlock = some k ∨ (Value.slice ad4 D.waits.length cap4).ownBlock = some k, ⟨.slice ad2 D.safe.length cap2, .slice ad4 D.waits.length cap4, ?_⟩, ?_⟩
    · refine ⟨by rw [hY]; rfl, hr35, hr5, ⟨.inl rfl, fun k e => ⟨.inr (.inl e), by have := own2 k e; omega⟩, fun k e => ⟨.inr (.inr e), by have := own4 k e; omega, fun e2 => ?_⟩, ?_⟩, HI1.out.ok⟩
      · have h1 := own4 k e
        have h2 := hr3.lt e2
        omega
      · rintro k (rfl | e | e)
        · exact hself
        · exact hr35.lt e
        · exact hr5.lt e
    · rintro k (rfl | e | e)
      · exact Nat.le_refl _
      · have := own2 k e; omega
      · have := own4 k e; omega
  have Fin := hid fin
  have K05 := hid k05
  clear fin k05 hr4 hX4 own4 k34 hr3 own2 k03 hY hkY hr5 hr35 HY HZ
  go_wp2_with (at_builtin; refine stopAt ?_; intro q hq)
  go_ret
  obtain ⟨F', h1, h2⟩ := Fin.out
  exact ⟨_, F', rfl, h1, K05.out, h2⟩
end Go.Proofs.Ytenijbngmdaakaa
