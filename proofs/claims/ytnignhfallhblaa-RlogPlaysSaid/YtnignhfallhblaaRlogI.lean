/- slices.Insert at a log's entries: one entry more. Conditions: as the contract names them. -/
import Derived.Test.YtnignhfallhblaaRlogO
import Derived.Lib.AppendZeros
import Derived.Lib.AppendZerosOnto
import Derived.Lib.Overlaps
import Derived.Laws.Externs
import Derived.Laws.Append
namespace Go.Proofs.Ytnignhfallhblaa
open Go.RowKit
open RM

theorem splice_shift {α : Type} (xs xs' ev : List α) (i n : Nat) (hi : i ≤ n) (h1 : xs.length = n) (h2 : xs'.length = n + ev.length) (h3 : xs'.take n = xs) :
    splice (splice xs' (i + ev.length) (xs.drop i)) i ev = xs.take i ++ ev ++ xs.drop i := by
  have e1 : splice xs' (i + ev.length) (xs.drop i) = xs'.take (i + ev.length) ++ xs.drop i := by
    unfold splice
    rw [List.drop_of_length_le (l := xs') (by rw [List.length_drop]; omega), List.append_nil]
  have l1 : (xs'.take (i + ev.length)).length = i + ev.length := by rw [List.length_take]; omega
  have e3 : xs'.take i = xs.take i := by rw [← h3, List.take_take, Nat.min_eq_left hi]
  have e4 : (xs'.take (i + ev.length) ++ xs.drop i).take i = xs.take i := by rw [List.take_append_of_le_length (by omega), List.take_take, Nat.min_eq_left (by omega), e3]
  have e5 : (xs'.take (i + ev.length) ++ xs.drop i).drop (i + ev.length) = xs.drop i := List.drop_left' l1
  rw [e1]
  unfold splice
  rw [e4, e5, List.append_assoc]
theorem splice_grow {α : Type} (xs zs ev : List α) (i n : Nat) (hi : i ≤ n) (h1 : xs.length = n) (h2 : zs.length = n + ev.length - i) :
    splice (splice (xs.take i ++ zs) i ev) (i + ev.length) (xs.drop i) = xs.take i ++ ev ++ xs.drop i := by
  have l0 : (xs.take i).length = i := by rw [List.length_take]; omega
  have e1 : splice (xs.take i ++ zs) i ev = xs.take i ++ ev ++ zs.drop ev.length := by
    have a : (xs.take i ++ zs).take i = xs.take i := List.take_left' l0
    have b : (xs.take i ++ zs).drop (i + ev.length) = zs.drop ev.length := by rw [List.drop_append, l0, List.drop_of_length_le (by omega), List.nil_append, show i + ev.length - i = ev.length by omega]
    unfold splice
    rw [a, b, List.append_assoc]
  have l2 : (xs.take i ++ ev).length = i + ev.length := by rw [List.length_append, l0]
  have e6 : (xs.take i ++ ev ++ zs.drop ev.length).take (i + ev.length) = xs.take i ++ ev := List.take_left' l2
  have e7 : (xs.take i ++ ev ++ zs.drop ev.length).drop (i + ev.length + (xs.drop i).length) = [] := List.drop_of_length_le (by simp; omega)
  rw [e1]
  unfold splice
  rw [e6, e7, List.append_nil]

theorem overlaps_apart (w : World) (g vb o lb cb : Nat) (curV curG : Array Value) (fz : Nat × Nat) (hne : vb ≠ g) (hv : w.heap[vb]? = some (.cells curV 32 (0, 0))) (hg : w.heap[g]? = some (.cells curG 32 fz)) (hG : curG.size ≠ 0) (hV : curV.size = 2) :
    (callFunc 46 #[.slice (some ⟨vb, 0, none⟩) 1 1, .slice (some ⟨g, o, none⟩) lb cb]).run Try.prog w = .ok (.value (.bool false)) w := by
  have hz : ∀ w, (Go.sizeOf 32).run Try.prog w = .ok 2 w := fun w => by
    have hinfo := ty_ents.info
    cases hq : Try.prog.info? 32 with
    | none => simp [hq] at hinfo
    | some i =>
      simp [hq] at hinfo
      simp [Go.sizeOf, typeInfo, hq, hinfo.2.1]
  rw [run_callFunc_extern Try.func46 (by kernel_rfl) (by kernel_rfl) (by kernel_rfl) (e := Extern.SlicesOverlaps.overlaps #[35, 35] #[4]) (by kernel_rfl),
    Lib.run_overlaps_apart w 35 4 32 Try.underlying35 2 hz ⟨vb, 0, none⟩ ⟨g, o, none⟩ 1 1 lb cb hne 32 32 2 curG.size (by simp [World.shape?, hv, hV]) (by simp [World.shape?, hg]) hG (by simp [World.frozen?, hv]) (by simp [World.frozen?, hv])]
  rfl

set_option maxRecDepth 20000 in
set_option maxHeartbeats 1000000 in
theorem insert_any (w : World) (v : Value) (n i vb : Nat) (us : List (Nat × Value)) (e : Nat × Value) (hr : Row w 32 2 v n (entsV us)) (hn : us.length = n) (hsm : n ≤ 1000000) (hi : i ≤ n)
    (hvb : w.heap[vb]? = some (.cells #[.int .u64 (e.1 : Int), e.2] 32 (0, 0))) (hne : v.ownBlock ≠ some vb) (he : e.2.oneCell' = true) (hus : ∀ x ∈ entsV us, x.oneCell' = true) :
    Calls Try.prog 33 #[v, .int .i64 i, .slice (some ⟨vb, 0, none⟩) 1 1] w fun r w' =>
      ∃ v', r = .returned v' ∧ Row w' 32 2 v' (n + 1) (entsV (us.take i ++ [e] ++ us.drop i)) ∧ Keep (fun k => v.ownBlock = some k) w w' ∧ ∀ k, v'.ownBlock = some k → v.ownBlock = some k ∨ w.heap.size ≤ k := by
  obtain ⟨ad, cap, rfl, hcap, hmax, -⟩ := hr.form
  have hsl := fun w => run_sliceAt_lo (P := Try.prog) ty_ents ad n cap .i64 i hi w
  have hev : Cells w (some ⟨vb, 0, none⟩) 1 2 (entV e) := ⟨rfl, fun _ => ⟨_, rfl, fun j u hu => by rw [addr_add, Nat.zero_add, cell_of_row _ _ _ _ _ _ hvb]; simpa [entV] using hu⟩⟩
  have hev1 : ∀ u ∈ entV e, u.oneCell' = true := by intro u hu; simp only [entV, List.mem_cons, List.not_mem_nil, or_false] at hu; rcases hu with rfl | rfl; rfl; exact he
  have e2 : entsV (us.take i ++ [e] ++ us.drop i) = (entsV us).take (i * 2) ++ entV e ++ (entsV us).drop (i * 2) := by rw [entsV_append, entsV_append, entsV_one, entsV_take, entsV_drop]
  have E2 := hid e2
  clear e2
  by_cases hin : i = n
  · have t1 : ((i : Int) == (n : Int)) = true := by rw [hin]; simp
    have Hin := hid hin
    clear hin
    go_enter Try.func33, Try.ntmps33
    go_wp2_with (at_builtin; refine stopAt ?_; intro q hq)
    (refine hq.out ?_; clear hq q)
    refine wpList_plain rfl (fun K hK => ?_)
    refine wp_append ty_ents (.tmp 23) (.tmp 24) rfl rfl hr (some ⟨vb, 0, none⟩) 1 1 (entV e) rfl hev hev1 (by unfold maxLen; omega) (by omega) ?_
    intro v2 w2 hr2 hk2 hv2
    refine hK _ _ ?_
    clear hK K
    have HX := hid (And.intro hr2 (And.intro hk2 (hv2.resolve_left (fun h => by omega))))
    clear hr2 hk2 hv2
    go_wp2_with (at_builtin; refine stopAt ?_; intro q hq)
    go_ret
    obtain ⟨h1, h2, k, h3, h4⟩ := HX.out
    refine ⟨v2, by rfl, ?_, h2, fun k' e' => ?_⟩
    · rw [E2.out, Hin.out, List.take_of_length_le (by rw [entsV_length]; omega), List.drop_of_length_le (by rw [entsV_length]; omega), List.append_nil]
      exact h1
    · rw [e'] at h3
      cases h3
      rcases h4 with h4 | h4
      · exact .inl h4
      · exact .inr (by omega)
  · have t1 : ((i : Int) == (n : Int)) = false := by simp; omega
    have hin' : i < n := by omega
    clear hin
    obtain ⟨g, cap', cur, fz, hv', hg, hfz, -, hcm, hsz, htk⟩ := hr.some (by omega)
    cases hv'
    have hgv : vb ≠ g := fun h => hne (by rw [h]; rfl)
    have htail : Cells w (some ⟨g, i * 2, none⟩) (n - i) 2 ((entsV us).drop (i * 2)) := by
      have h := Cells.tail (Cells.of_row hr) i hi hcap (by decide)
      rw [show tailAt (some ⟨g, 0, none⟩) cap i 2 = some ⟨g, i * 2, none⟩ by unfold tailAt; rw [if_neg (by omega)]; simp [addr_add]] at h
      exact h
    have hxl : (entsV us).length = n * 2 := by rw [entsV_length, hn]
    have hdl : ((entsV us).drop (i * 2)).length = (n - i) * 2 := by rw [List.length_drop, hxl]; omega
    have hd1 : ∀ u ∈ (entsV us).drop (i * 2), u.oneCell' = true := fun u hu => hus u (List.mem_of_mem_drop hu)
    have hevl : (entV e).length = 2 := rfl
    clear hsl
    by_cases hroom : n + 1 ≤ cap
    · have t2 : decide ((cap : Int) < (n : Int) + 1) = false := by simp; omega
      have hov := overlaps_apart w g vb ((i + 1) * 2) (n - i) (cap - (i + 1)) _ cur fz hgv hvb hg (by rw [hsz]; omega) rfl
      have hr' : Row w 32 2 (.slice (some ⟨g, 0, none⟩) (n + 1) cap) (n + 1) (cur.toList.take ((n + 1) * 2)) :=
        ⟨by rw [List.length_take]; simp [hsz]; omega, .inr ⟨g, cap, cur, fz, rfl, hg, hfz, hroom, hcm, hsz, rfl⟩⟩
      have hdrew : Keep (fun _ => False) w w.drew := (Keep.refl _ _).drew
      obtain ⟨p, hp⟩ : ∃ p, p = i + 1 := ⟨_, rfl⟩
      have hcp1 := run_copy (P := Try.prog) (w := w.drew) (sT := 35) (ty := 3) ty_ents g (p * 2) (n + 1 - p) (cap - p) cur 32 fz hg hfz (some ⟨g, i * 2, none⟩) (n + 1 - i) (cap - i) ((entsV us).drop (i * 2)) (n - i) (by omega)
        (htail.keep hdrew (fun _ _ x => x)) (by rw [hdl, hsz]; omega) hd1
      have hr1 := Row.spliced (hr'.keep hdrew (fun _ _ x => x)) hg (p * 2) ((entsV us).drop (i * 2)) (by rw [hdl]; omega)
      have hk1 : Keep (fun k => k = g) w (w.drew.setRow g (splice cur.toList (p * 2) ((entsV us).drop (i * 2))).toArray) := by refine Keep.setRow (Keep.refl _ _).drew (.inl ?_) _; rfl
      have hg1 := setRow_heap w.drew g cur (splice cur.toList (p * 2) ((entsV us).drop (i * 2))).toArray _ fz hg
      obtain ⟨w1, hw1⟩ : ∃ w1, w1 = w.drew.setRow g (splice cur.toList (p * 2) ((entsV us).drop (i * 2))).toArray := ⟨_, rfl⟩
      rw [← hw1] at hcp1 hr1 hk1 hg1
      clear hw1
      have hwp : IntKind.i64.wrap ((i : Int) + 1) = (p : Int) := by rw [hp]; simp [IntKind.wrap, IntKind.signed, IntKind.bits]; omega
      have hb1 : 0 ≤ (p : Int) ∧ (p : Int) ≤ (n : Int) + 1 := by omega
      have hb2 : 0 ≤ (i : Int) ∧ (i : Int) ≤ (n : Int) + 1 := by omega
      have hc1 : ¬ cap = p := by omega
      have hc2 : ¬ cap = i := by omega
      have hb3 : (i : Int) ≤ (n : Int) + 1 := by omega
      have hb4 : (p : Int) ≤ (n : Int) + 1 := by omega
      have HW := hid (And.intro hwp (And.intro hb1 (And.intro hb2 (And.intro hc1 (And.intro hc2 (And.intro hb3 hb4))))))
      have Hcp1 := hid hcp1
      clear hwp hb1 hb2 hc1 hc2 hb3 hb4 hcp1
      have Hp := hid hp
      clear hp
      go_enter Try.func33, Try.ntmps33
      go_wp2_with (at_builtin; refine stopAt ?_; intro q hq)
      refine wp_region_canon [] (by kernel_rfl) (by kernel_rfl) ?_
      repeat (first | (apply wpC_pure (by rfl); (intro K w'; go_simp; (simp only [HW.out.1, if_neg HW.out.2.2.2.1, if_neg HW.out.2.2.2.2.1, if_pos HW.out.2.2.2.2.2.1, if_pos HW.out.2.2.2.2.2.2]); first | exact fun x => ⟨rfl, x⟩ | exact fun x => ⟨trivial, x⟩ | exact id)) | (apply wpC_pure (by rfl); (intro K w'; go_simp; exact id)) | (apply wpC_load (by rfl); (intro K; go_simp; exact id)))
      have hcp1 := Hcp1.out
      refine wpC_act (by rfl) (by rfl) (fun K hK => ?_)
      go_simp
      refine hK _ _ ?_
      clear hK K hcp1
      refine wpC_nil ?_
      have hsl : (splice cur.toList (p * 2) ((entsV us).drop (i * 2))).length = cap * 2 := by
        rw [length_splice _ _ _ (by have := Hp.out; simp [hsz, hdl]; omega)]
        simp [hsz]
      have hcp2 := run_copy (P := Try.prog) (w := w1) (sT := 35) (ty := 3) ty_ents g (i * 2) (n + 1 - i) (cap - i) _ 32 fz hg1 (by rw [List.size_toArray, hsl, ← hsz]; exact hfz) (some ⟨vb, 0, none⟩) 1 1 (entV e) 1 (by omega)
        (hev.keep hk1 (fun x hx y => by cases hx; exact hgv y)) (by rw [List.size_toArray, hsl, hevl]; omega) hev1
      have hr2 := Row.spliced hr1 hg1 (i * 2) (entV e) (by rw [hevl]; omega)
      have hk2 : Keep (fun k => k = g) w (w1.setRow g (splice (splice cur.toList (p * 2) ((entsV us).drop (i * 2))).toArray.toList (i * 2) (entV e)).toArray) := by refine Keep.setRow hk1 (.inl ?_) _; rfl
      obtain ⟨w2, hw2⟩ : ∃ w2, w2 = w1.setRow g (splice (splice cur.toList (p * 2) ((entsV us).drop (i * 2))).toArray.toList (i * 2) (entV e)).toArray := ⟨_, rfl⟩
      rw [← hw2] at hcp2 hr2 hk2
      have e3 : (p * 2) = i * 2 + (entV e).length := by rw [hevl, Hp.out]; omega
      rw [e3, splice_shift (entsV us) _ (entV e) (i * 2) (n * 2) (by omega) hxl (by rw [List.length_take]; simp [hsz, hevl]; omega) (by rw [List.take_take, Nat.min_eq_left (by omega)]; exact htk)] at hr2
      have HX := hid (And.intro hr2 hk2)
      clear hr2 hk2 hw2 e3 hsl hr1 hk1 hg1 hov
      go_wp2_with (at_builtin; refine stopAt ?_; intro q hq)
      go_ret
      refine ⟨.slice (some ⟨g, 0, none⟩) (n + 1) cap, by rfl, ?_, HX.out.2.mono (fun k _ x => by rw [x]; rfl), fun k e' => .inl e'⟩
      rw [E2.out]
      exact HX.out.1
    · have t2 : decide ((cap : Int) < (n : Int) + 1) = true := by simp; omega
      have hinfo := ty_ents.info
      obtain ⟨i0, hi0, hz0, hs0, hb0⟩ : ∃ i0, Try.prog.info? 32 = some i0 ∧ i0.zero = some entZero ∧ i0.size = 2 ∧ i0.bytes = 32 := by
        cases hq : Try.prog.info? 32 with
        | none => simp [hq] at hinfo
        | some i => simp [hq] at hinfo; exact ⟨i, rfl, hinfo.1, hinfo.2.1, hinfo.2.2⟩
      have hcut := Cells.of_row (hr.cut i hi)
      have hold : (Builtin.firstCells i0.size i (.slice (some ⟨g, 0, none⟩) i cap)).run Try.prog w.drew = .ok ((entsV us).take (i * 2)).toArray w.drew := by
        rw [hs0]; exact run_first (P := Try.prog) (w := w.drew) 2 i (some ⟨g, 0, none⟩) cap i _ (hcut.keep (Keep.refl (fun _ => False) w).drew (fun _ _ x => x))
      have hap := Lib.run_append_grow_zeros w 35 3 35 32 i0 entZero .i64 .i64 Try.underlying35 Try.underlying3 hi0 hz0 (some ⟨g, 0, none⟩) i cap _ hold (n + 1 - i) (by omega) (by omega) (by omega) (by omega) (by rw [hb0]; omega) (by rw [hb0, show i + (n + 1 - i) = n + 1 by omega]; exact growslice_fits (by omega) (by omega))
      rw [show i + (n + 1 - i) = n + 1 by omega] at hap
      obtain ⟨G, hG⟩ : ∃ G, G = grownCap w (n + 1) cap 32 := ⟨_, rfl⟩
      have hG1 : n + 1 ≤ G := by rw [hG]; exact grownCap_ge _ _ _ _
      have hG2 : G ≤ maxLen := by rw [hG]; exact grownCap_le_maxLen _ _ _ _ (by unfold maxLen; omega)
      rw [← hG] at hap
      clear hG hold hcut hinfo
      obtain ⟨kz, hkz⟩ : ∃ k, k = n + 1 - i := ⟨_, rfl⟩
      have r1 : (n : Int) + 1 - (i : Int) = (kz : Int) := by omega
      rw [← hkz] at hap
      obtain ⟨A, hA⟩ : ∃ A, A = ((entsV us).take (i * 2)).toArray ++ Builtin.zeroCells entZero.cells kz ++ Builtin.zeroCells entZero.cells (G - (n + 1)) := ⟨_, rfl⟩
      rw [← hA] at hap
      have z2 : entZero.cells.size = 2 := rfl
      have hAl : A.size = G * 2 := by
        rw [hA]
        simp only [Array.size_append, List.size_toArray, size_zeroCells, z2, List.length_take, hxl]
        omega
      have hAt : A.toList.take ((n + 1) * 2) = (entsV us).take (i * 2) ++ (Builtin.zeroCells entZero.cells kz).toList := by
        rw [hA]
        simp only [Array.toList_append]
        refine List.take_left' ?_
        simp only [List.length_append, List.length_take, Array.length_toList, size_zeroCells, z2, hxl]
        omega
      have hg1 := heap_alloc_new w.drew (.cells A 32)
      have k1 : Keep (fun _ => False) w (w.drew.alloc (.cells A 32)) := (Keep.refl _ _).drew.alloc _
      obtain ⟨h, hh⟩ : ∃ h, h = w.heap.size := ⟨_, rfl⟩
      have hgh : g < h := by rw [hh]; exact heap_lt hg
      have hvh : vb < h := by rw [hh]; exact heap_lt hvb
      obtain ⟨w1, hw1⟩ : ∃ w1, w1 = w.drew.alloc (.cells A 32) := ⟨_, rfl⟩
      have hdh : w.drew.heap.size = h := by rw [hh]; rfl
      rw [hdh, ← hw1] at hg1
      rw [← hw1] at hap k1
      rw [← hh] at hap
      have hr1 : Row w1 32 2 (.slice (some ⟨h, 0, none⟩) (n + 1) G) (n + 1) ((entsV us).take (i * 2) ++ (Builtin.zeroCells entZero.cells kz).toList) :=
        ⟨by rw [← hAt, List.length_take]; simp [hAl]; omega, .inr ⟨h, G, A, (0, 0), rfl, hg1, Free.zero _, hG1, hG2, hAl, hAt⟩⟩
      have HH := hid (And.intro hh hkz)
      have Hap := hid hap
      clear hw1 hA hh hdh hkz hap
      have hcp2 := run_copy (P := Try.prog) (w := w1) (sT := 35) (ty := 3) ty_ents h (i * 2) (n + 1 - i) (G - i) A 32 (0, 0) hg1 (Free.zero _) (some ⟨vb, 0, none⟩) 1 1 (entV e) 1 (by omega) (hev.keep k1 (fun _ _ x => x)) (by rw [hAl, hevl]; omega) hev1
      have hr2 := Row.spliced hr1 hg1 (i * 2) (entV e) (by rw [hevl]; omega)
      have k2 : Keep (fun k => k = h) w1 (w1.setRow h (splice A.toList (i * 2) (entV e)).toArray) := by refine Keep.setRow (Keep.refl _ _) (.inl ?_) _; rfl
      have hg2 := setRow_heap w1 h A (splice A.toList (i * 2) (entV e)).toArray _ (0, 0) hg1
      have hsl : (splice A.toList (i * 2) (entV e)).length = G * 2 := by
        rw [length_splice _ _ _ (by simp [hAl, hevl]; omega)]
        simp [hAl]
      obtain ⟨w2, hw2⟩ : ∃ w2, w2 = w1.setRow h (splice A.toList (i * 2) (entV e)).toArray := ⟨_, rfl⟩
      rw [← hw2] at hcp2 hr2 k2 hg2
      clear hw2
      obtain ⟨p, hp⟩ : ∃ p, p = i + 1 := ⟨_, rfl⟩
      have htail2 := (htail.keep k1 (fun _ _ x => x)).keep k2 (fun x hx y => by cases hx; simp only at y; omega)
      have htail3 := htail2.keep (Keep.refl (fun _ => False) w2).drew (fun _ _ x => x)
      have hcp3 := run_copy (P := Try.prog) (w := w2.drew) (sT := 35) (ty := 3) ty_ents h (p * 2) (n + 1 - p) (G - p) _ 32 (0, 0) hg2 (Free.zero _) (some ⟨g, i * 2, none⟩) (n - i) (cap - i) ((entsV us).drop (i * 2)) (n - i) (by omega)
        htail3 (by rw [List.size_toArray, hsl, hdl]; omega) hd1
      have hr3 := Row.spliced (hr2.keep (Keep.refl (fun _ => False) w2).drew (fun _ _ x => x)) hg2 (p * 2) ((entsV us).drop (i * 2)) (by rw [hdl]; omega)
      have e3 : (p * 2) = i * 2 + (entV e).length := by rw [hevl, hp]; omega
      have k3 : Keep (fun k => k = h) w1 (w2.drew.setRow h (splice (splice A.toList (i * 2) (entV e)).toArray.toList (p * 2) ((entsV us).drop (i * 2))).toArray) := by refine Keep.setRow k2.drew (.inl ?_) _; rfl
      obtain ⟨w3, hw3⟩ : ∃ w3, w3 = w2.drew.setRow h (splice (splice A.toList (i * 2) (entV e)).toArray.toList (p * 2) ((entsV us).drop (i * 2))).toArray := ⟨_, rfl⟩
      rw [← hw3] at hcp3 hr3 k3
      clear hw3
      rw [e3, splice_grow (entsV us) _ (entV e) (i * 2) (n * 2) (by omega) hxl (by simp only [Array.length_toList, size_zeroCells, z2, hevl]; have := HH.out.2; omega)] at hr3
      have hwp : IntKind.i64.wrap ((i : Int) + 1) = (p : Int) := by rw [hp]; simp [IntKind.wrap, IntKind.signed, IntKind.bits]; omega
      have hb1 : 0 ≤ (p : Int) ∧ (p : Int) ≤ (n : Int) + 1 := by omega
      have hb2 : 0 ≤ (i : Int) ∧ (i : Int) ≤ (n : Int) := by omega
      have hc1 : ¬ G = p := by omega
      have hc2 : ¬ cap = i := by omega
      have hb3 : (i : Int) ≤ (n : Int) := by omega
      have hb4 : (p : Int) ≤ (n : Int) + 1 := by omega
      have HW := hid (And.intro hwp (And.intro hb1 (And.intro hb2 (And.intro hc1 (And.intro hc2 (And.intro hb3 hb4))))))
      have HX := hid (And.intro hr3 (And.intro k1 k3))
      have Hcp3 := hid hcp3
      have Hcp2 := hid hcp2
      clear hwp hb1 hb2 hc1 hc2 hb3 hb4 hcp3 hcp2 hr1 hr2 hr3 k1 k2 k3 hg1 hg2 htail htail2 htail3 hsl e3 hAt hAl hp z2
      go_enter Try.func33, Try.ntmps33
      go_wp2_with (at_builtin; refine stopAt ?_; intro q hq)
      (refine hq.out ?_; clear hq q)
      refine wpList_plain rfl (fun K hK => ?_)
      refine Lib.wp_append_run w (.tmp 34) (.tmp 39) 35 3 rfl _ _ rfl rfl _ _ Hap.out ?_
      refine hK _ _ ?_
      clear hK K
      have hcp2 := Hcp2.out
      go_wp2_with (at_builtin; refine stopAt ?_; intro q hq)
      clear hcp2
      refine wp_region_canon [] (by kernel_rfl) (by kernel_rfl) ?_
      repeat (first | (apply wpC_pure (by rfl); (intro K w'; go_simp; (simp only [HW.out.1, if_neg HW.out.2.2.2.1, if_neg HW.out.2.2.2.2.1, if_pos HW.out.2.2.2.2.2.2]); first | exact fun x => ⟨rfl, x⟩ | exact fun x => ⟨trivial, x⟩ | exact id)) | (apply wpC_pure (by rfl); (intro K w'; go_simp; exact id)) | (apply wpC_load (by rfl); (intro K; go_simp; exact id)))
      have hcp3 := Hcp3.out
      refine wpC_act (by rfl) (by rfl) (fun K hK => ?_)
      go_simp
      refine hK _ _ ?_
      clear hK K hcp3
      refine wpC_nil ?_
      go_wp2_with (at_builtin; refine stopAt ?_; intro q hq)
      go_ret
      obtain ⟨h1, h2, h3⟩ := HX.out
      refine ⟨.slice (some ⟨h, 0, none⟩) (n + 1) G, by rfl, ?_, (h2.next h3 (fun _ _ x => x.elim) (fun j hj x => by have := HH.out.1; omega)), fun k e' => .inr ?_⟩
      · rw [E2.out]
        exact h1
      · simp [Value.ownBlock] at e'
        have := HH.out.1
        omega
end Go.Proofs.Ytnignhfallhblaa
