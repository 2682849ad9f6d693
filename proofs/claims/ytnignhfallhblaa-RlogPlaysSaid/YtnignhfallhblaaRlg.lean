/- seawallref12.Same; the statements' helpers Lent, Whole. Conditions: as the contracts name them. -/
import Derived.Test.YtnignhfallhblaaRlf
namespace Go.Proofs.Ytnignhfallhblaa
open Go.RowKit
open RM

theorem Firsts.ent {w : World} {v : Value} {fs : List Ent} {us : List (Nat × Value)} (h : Firsts w w v fs us) (i : Nat) (hi : i < fs.length) :
    ∃ gr cap ao c, v = .slice (some ⟨gr, 0, none⟩) us.length cap ∧ w.cell? ⟨gr, i * 2, none⟩ = some (.int .u64 (fs[i].1 : Nat)) ∧ w.cell? ⟨gr, i * 2 + 1, none⟩ = some (.slice ao fs[i].2.length c) ∧ Cells w ao fs[i].2.length 1 (bytesV fs[i].2) := by
  obtain ⟨ao, c, h1, h2⟩ := h.each i hi
  have hui : i < us.length := by rw [h.len]; exact hi
  obtain ⟨gr, cap, hv, c0, c1⟩ := ent_at h.row i hui
  rw [List.getElem?_eq_getElem hui, Option.some.injEq] at h1
  rw [h1] at c0 c1
  exact ⟨gr, cap, ao, c, hv, c0, c1, h2⟩
theorem Firsts.both {w w' : World} {v : Value} {fs : List Ent} {us : List (Nat × Value)} (h : Firsts w w v fs us) (hk : Keep (fun _ => False) w w') : Firsts w' w' v fs us := (h.keep hk fun _ _ x => x).base hk

set_option maxRecDepth 20000 in
set_option maxHeartbeats 1000000 in
theorem rsame_any (w : World) (v1 v2 : Value) (fs : List Ent) (us1 us2 : List (Nat × Value)) (h1 : Firsts w w v1 fs us1) (h2 : Firsts w w v2 fs us2) (hn : fs.length ≤ 1000000) :
    Calls Try.prog 27 #[v1, v2] w fun e w' => e = .returned (.bool true) ∧ Keep (fun _ => False) w w' := by
  obtain ⟨ao, c, hv1, -⟩ := h1.row.form
  obtain ⟨ao2, c2, hv2, -⟩ := h2.row.form
  rw [h1.len] at hv1
  rw [h2.len] at hv2
  subst hv1 hv2
  have H1 := hid h1
  have H2 := hid h2
  obtain ⟨n, hnn⟩ : ∃ n, n = fs.length := ⟨_, rfl⟩
  rw [← hnn] at H1 H2 hn ⊢
  have Hn := hid hnn
  clear h1 h2 hnn
  go_enter Try.func27, Try.ntmps27
  go_wp2_with (at_builtin; refine stopAt ?_; intro q hq)
  go_loopw [5] (fun iv wr => ∃ i : Nat, i ≤ n ∧ iv = .int .i64 i ∧ Hid (Keep (fun _ => False) w wr)) (fun iv _ => n - (intOf iv).toNat)
  case atStart => exact ⟨0, Nat.zero_le _, rfl, hid (Keep.refl _ _)⟩
  case round =>
    obtain ⟨i, hi, rfl, HK⟩ := hrel
    by_cases hin : i < n
    · have q1 : (i : Int) < n := by omega
      have hif : i < fs.length := by rw [← Hn.out]; exact hin
      obtain ⟨g1, p1, a1, d1, hv1, c0, c1, e1⟩ := (H1.out.both HK.out).ent i hif
      obtain ⟨g2, p2, a2, d2, hv2, b0, b1, e2⟩ := (H2.out.both HK.out).ent i hif
      obtain ⟨rfl, -, rfl⟩ : ao = some ⟨g1, 0, none⟩ ∧ n = us1.length ∧ c = p1 := by simpa using hv1
      obtain ⟨rfl, -, rfl⟩ : ao2 = some ⟨g2, 0, none⟩ ∧ n = us2.length ∧ c2 = p2 := by simpa using hv2
      obtain ⟨x, hx⟩ : ∃ x, x = fs[i].1 := ⟨_, rfl⟩
      obtain ⟨bs, hbs⟩ : ∃ x, x = fs[i].2 := ⟨_, rfl⟩
      rw [← hx] at c0 b0
      rw [← hbs] at c1 b1 e1 e2
      have hs1 : ∀ m, (convert 24 9 (.slice a1 bs.length d1)).run Try.prog (wr.drewN m) = .ok (.string (str bs)) (wr.drewN m) := fun m =>
        run_str Try.underlying24 Try.underlying5 Try.underlying9 (e1.keep ((Keep.refl (fun _ => False) wr).drewN m) (fun _ _ x => x))
      have hs2 : ∀ m, (convert 24 9 (.slice a2 bs.length d2)).run Try.prog (wr.drewN m) = .ok (.string (str bs)) (wr.drewN m) := fun m =>
        run_str Try.underlying24 Try.underlying5 Try.underlying9 (e2.keep ((Keep.refl (fun _ => False) wr).drewN m) (fun _ _ x => x))
      obtain ⟨bl, hbl⟩ : ∃ n, n = bs.length := ⟨_, rfl⟩
      rw [← hbl] at c1 b1 hs1 hs2
      clear hv1 hv2 hx hbs e1 e2 hbl
      go_wp2_with (at_builtin; refine stopAt ?_; intro q hq)
      go_quiet (fail)
      clear hs1 hs2 c0 c1 b0 b1
      go_wp2_with (at_builtin; refine stopAt ?_; intro q hq)
      exact ⟨⟨i + 1, by omega, by go_num, hid (HK.out.drewN _)⟩, by simp [intOf]; omega⟩
    · have q1 : decide ((i : Int) < (n : Int)) = false := by simp; omega
      go_wp2_with (at_builtin; refine stopAt ?_; intro q hq)
      go_ret
      exact ⟨by rfl, HK.out⟩

/-- What is lent: a row of two bytes more. -/
structure LentIs (w w' : World) (g n cap : Nat) (l : List UInt8) : Prop where
  row : Row w' 5 1 (.slice (some ⟨g, 0, none⟩) (n + 2) cap) (n + 2) (bytesV (l ++ [91, 92]))
  new : w.heap.size ≤ g
  keep : Keep (fun _ => False) w w'

set_option maxRecDepth 20000 in
set_option maxHeartbeats 400000 in
theorem lent_any (w : World) (ao : Option Addr) (n c : Nat) (l : List UInt8) (h1 : Cells w ao n 1 (bytesV l)) (hn : n ≤ 1000000) :
    Calls Try.prog 35 #[.slice ao n c] w fun e w' => ∃ g cap, e = .returned (.slice (some ⟨g, 0, none⟩) n cap) ∧ LentIs w w' g n cap l := by
  have hl : l.length = n := by have := h1.1; rw [bytesV_length] at this; omega
  have H1 := hid (And.intro h1 hl)
  clear h1 hl
  go_enter Try.func35, Try.ntmps35
  go_wp2_with (at_builtin; refine stopAt ?_; intro q hq)
  refine (copy_any w ao n c l H1.out.1 (by omega)).mono ?_
  rintro e w2 ⟨v2, rfl, hF⟩
  obtain ⟨ao2, c2, rfl, -⟩ := hF.row.form
  have hr := hF.row
  have ho := hF.own
  rw [H1.out.2] at hr ho ⊢
  have HF := hid (And.intro hr (And.intro hF.keep ho))
  clear hr hF ho
  go_wp2_with (at_builtin; refine stopAt ?_; intro q hq)
  (refine hq.out ?_; clear hq q)
  obtain ⟨hr, hk2, ho⟩ := HF.out
  have hB := heap_alloc_new w2 (.cells #[.int .u8 91, .int .u8 92] 5)
  have kB : Keep (fun _ => False) w2 (w2.alloc (.cells #[.int .u8 91, .int .u8 92] 5)) := (Keep.refl _ _).alloc _
  obtain ⟨wB, hwB⟩ : ∃ wB, wB = w2.alloc (.cells #[.int .u8 91, .int .u8 92] 5) := ⟨_, rfl⟩
  rw [← hwB] at hB kB ⊢
  have hev : Cells wB (some ⟨w2.heap.size, 0, none⟩) 2 1 (bytesV [91, 92]) := ⟨rfl, fun _ => ⟨_, rfl, fun j u hu => by rw [addr_add, Nat.zero_add, cell_of_row _ _ _ _ _ _ hB]; simpa [bytesV] using hu⟩⟩
  refine wpList_plain rfl (fun K hK => ?_)
  refine wp_append (v := .slice ao2 n c2) ty_bytes (.tmp 6) (.tmp 7) rfl rfl (hr.keep kB fun _ _ x => x) (some ⟨w2.heap.size, 0, none⟩) 2 2 (bytesV [91, 92]) rfl hev (bytesV_one _) (by unfold maxLen; omega) (by omega) ?_
  intro v6 w6 hr6 hk6 hv6
  refine hK _ _ ?_
  clear hK K
  obtain ⟨g, cap, rfl, hcap⟩ : ∃ g cap, v6 = .slice (some ⟨g, 0, none⟩) (n + 2) cap ∧ n + 2 ≤ cap := by
    obtain ⟨g, cap, _, _, h1, _, _, h2, _⟩ := hr6.some (by omega)
    exact ⟨g, cap, h1, h2⟩
  have HL := hid (show LentIs w w6 g n cap l from ⟨by rw [bytesV_append]; exact hr6, by
    rcases hv6 with ⟨_, z⟩ | ⟨k', y, z⟩
    · exact absurd z (by omega)
    · cases y
      rcases z with z | z
      · exact ho _ z
      · have z' : g = wB.heap.size := z
        have := hk2.size; have := kB.size; omega, (hk2.next kB (fun _ _ x => x) (fun _ _ x => x)).next hk6 (fun _ _ x => x) (fun k hk x => by have := ho k x; omega)⟩)
  have hsl := fun w => run_sliceAt_hi2 (P := Try.prog) ty_bytes (some ⟨g, 0, none⟩) (n + 2) cap .i64 n (by omega) w
  clear hr6 hk6 hv6 hev hB kB hwB hr hk2 ho hcap
  go_wp2_with (at_builtin; refine stopAt ?_; intro q hq)
  go_ret
  exact ⟨g, cap, by rfl, HL.out⟩

set_option maxRecDepth 20000 in
set_option maxHeartbeats 400000 in
theorem whole_any (w : World) (g n cap c : Nat) (ao : Option Addr) (l : List UInt8) (h1 : Row w 5 1 (.slice (some ⟨g, 0, none⟩) (n + 2) cap) (n + 2) (bytesV (l ++ [91, 92]))) (h2 : Cells w ao n 1 (bytesV l)) (hn : n ≤ 1000000) :
    Calls Try.prog 37 #[.slice (some ⟨g, 0, none⟩) n cap, .slice ao n c] w fun e w' => e = .returned (.bool true) ∧ Keep (fun _ => False) w w' := by
  have hl : l.length = n := by have := h2.1; rw [bytesV_length] at this; omega
  have hcap : n + 2 ≤ cap := by
    obtain ⟨_, _, _, _, h, _, _, h3, _⟩ := h1.some (by omega)
    cases h
    exact h3
  have c0 : w.cell? ⟨g, n, none⟩ = some (.int .u8 91) := by
    rw [h1.cell n (by omega)]
    rw [bytesV_append, List.getElem?_append_right (by rw [bytesV_length]; omega), bytesV_length, hl, Nat.sub_self]
    rfl
  have c1 : w.cell? ⟨g, n + 1, none⟩ = some (.int .u8 92) := by
    rw [h1.cell (n + 1) (by omega)]
    rw [bytesV_append, List.getElem?_append_right (by rw [bytesV_length]; omega), bytesV_length, hl, show n + 1 - n = 1 by omega]
    rfl
  have hx : Cells w (some ⟨g, 0, none⟩) n 1 (bytesV l) := by
    have := Cells.of_row (h1.cut n (by omega))
    rwa [Nat.mul_one, bytesV_append, List.take_left' (by rw [bytesV_length]; exact hl)] at this
  have hs1 := run_str (P := Try.prog) Try.underlying24 Try.underlying5 Try.underlying9 (c := cap) hx
  have hs2 := run_str (P := Try.prog) Try.underlying24 Try.underlying5 Try.underlying9 (c := c) h2
  have hsl := fun w => run_sliceAt_hi2 (P := Try.prog) ty_bytes (some ⟨g, 0, none⟩) n cap .i64 (n + 2) hcap w
  rw [show (((n + 2 : Nat) : Nat) : Int) = (n : Int) + 2 by omega] at hsl
  clear h1 h2 hl hx hcap
  go_enter Try.func37, Try.ntmps37
  go_wp2_with (at_builtin; refine stopAt ?_; intro q hq)
  go_ret
  exact ⟨by rfl, Keep.refl _ _⟩
end Go.Proofs.Ytnignhfallhblaa
