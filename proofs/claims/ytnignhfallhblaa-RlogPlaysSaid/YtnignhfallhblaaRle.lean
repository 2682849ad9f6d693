/- The document's log: contracts for Holes, Catch. Conditions: as the contracts name them. -/
import Derived.Test.YtnignhfallhblaaRld
import Derived.Test.YtnignhfallhblaaRlogM4
namespace Go.Proofs.Ytnignhfallhblaa
open Go.RowKit
open RM

structure RHRel (w : World) (g : Lg) (most : Int) (s n : Nat) (v : Value) (wr : World) : Prop where
  ex : ∃ es rest, Row wr 26 1 v n (u64V es) ∧ es.length = n ∧ es ++ rest = gapsOf g ∧ (∀ t ∈ rest, s ≤ t) ∧ n ≤ most.toNat ∧ ∀ t ∈ es, t < s
  own : ∀ k, v.ownBlock = some k → w.heap.size ≤ k
  keep : Keep (fun _ => False) w wr

theorem one_u64 (l : List Nat) : ∀ u ∈ u64V l, u.oneCell' = true := by
  intro u hu
  unfold u64V at hu
  obtain ⟨n, _, rfl⟩ := List.mem_map.1 hu
  rfl

set_option maxRecDepth 20000 in
set_option maxHeartbeats 1000000 in
theorem rholes_any (w : World) (b : Nat) (F : Nat → Prop) (g : Lg) (most : Int) (hL : RefAt w b F g) (hm1 : -9223372036854775808 ≤ most) (hm2 : most ≤ 100000) :
    Calls Try.prog 29 #[.pointer (some ⟨b, 0, none⟩), .int .i64 most] w fun e w' => OutU w (RM.holes g most) e w' := by
  have hok := hL.ok
  have hap := hok.ap
  have htop : RM.top g < 18446744073709551615 := by
    rcases (top_spec hok.rising).2.2 with h | ⟨e, he, h⟩
    · omega
    · have := (hok.slots e he).2; omega
  obtain ⟨v, us, rl, hI, hp, -⟩ := id hL
  obtain ⟨a0, -, -⟩ := cells2 hI.head
  have HL := hid hL
  have HI := hid (And.intro hI (And.intro hp hok))
  obtain ⟨tp, htp⟩ : ∃ t, t = RM.top g := ⟨_, rfl⟩
  have Htp := hid htp
  rw [← htp] at htop
  clear hL hok hI hp htp
  go_enter Try.func29, Try.ntmps29
  go_wp2_with (at_builtin; refine stopAt ?_; intro q hq)
  refine (rtop_any w b F g HL.out).mono ?_
  rintro e w2 ⟨rfl, hk2⟩
  rw [← Htp.out]
  have HK2 := hid hk2
  clear a0
  obtain ⟨a0, -, -⟩ := cells2 (HI.out.1.keep hk2 fun _ _ x => x).head
  clear hk2
  go_wp2_with (at_builtin; refine stopAt ?_; intro q hq)
  clear a0
  go_loopw [5, 7, 8] (fun ov sv _ wr => ∃ s n : Nat, g.ap + 1 ≤ s ∧ s ≤ 18446744073709551615 ∧ n ≤ 100000 ∧ sv = .int .u64 s ∧ Hid (RHRel w g most s n ov wr)) (fun _ sv _ _ => tp - (intOf sv).toNat)
  case atStart => exact ⟨g.ap + 1, 0, Nat.le_refl _, by omega, Nat.zero_le _, by go_num, hid ⟨⟨[], gapsOf g, Row.nil _ _ _, rfl, rfl, fun t ht => by have := ((gapsOf_mem HI.out.2.2.rising t).1 ht).1; omega, Nat.zero_le _, fun t ht => by simp at ht⟩, fun k e => by simp [Value.ownBlock] at e, HK2.out⟩⟩
  case round =>
    obtain ⟨s, n, hs, hs6, hn6, rfl, HR⟩ := hrel
    obtain ⟨es, rest, hrow, hel, hsum, hge, hnn, hlt⟩ := HR.out.ex
    obtain ⟨ao, c, rfl, -⟩ := hrow.form
    have HE := hid (And.intro hrow (And.intro hel (And.intro hsum (And.intro hge (And.intro hnn hlt)))))
    clear hrow hel hsum hge hnn hlt
    by_cases hst : s < tp
    · have q1 : (s : Int) < tp := by omega
      by_cases hnm : (n : Int) < most
      · have q2 : decide ((n : Int) < most) = true := by simpa using hnm
        go_wp2_with (at_builtin; refine stopAt ?_; intro q hq)
        refine (rat_any wr b g.ap F rl v us s (HI.out.1.keep HR.out.keep fun _ _ x => x) (by have := HI.out.2.1.length_eq; have := HI.out.2.2.few; omega)).mono ?_
        rintro e w3 ⟨z, rfl, hz, hk3⟩
        have HKw := hid (HR.out.keep.next hk3 (fun _ _ x => x) (fun _ _ x => x))
        have HK3 := hid hk3
        have q5 : (s : Int) + 1 ≤ 18446744073709551615 := by omega
        clear hk3
        rcases hz with ⟨rfl, hz⟩ | ⟨j, hj, rfl, hz⟩
        · have HZ := hid hz
          clear hz
          go_wp2_with (at_builtin; refine stopAt ?_; intro q hq)
          (refine hq.out ?_; clear hq q)
          obtain ⟨hrow, hel, hsum, hge, hnn, hlt⟩ := HE.out
          have hB := heap_alloc_new w3 (.cells #[.int .u64 (s : Nat)] 26)
          have kB : Keep (fun _ => False) w3 (w3.alloc (.cells #[.int .u64 (s : Nat)] 26)) := (Keep.refl _ _).alloc _
          obtain ⟨wB, hwB⟩ : ∃ wB, wB = w3.alloc (.cells #[.int .u64 (s : Nat)] 26) := ⟨_, rfl⟩
          rw [← hwB] at hB kB ⊢
          have hev : Cells wB (some ⟨w3.heap.size, 0, none⟩) 1 1 (u64V [s]) := ⟨rfl, fun _ => ⟨_, rfl, fun j u hu => by rw [addr_add, Nat.zero_add, cell_of_row _ _ _ _ _ _ hB]; simpa [u64V] using hu⟩⟩
          refine wpList_plain rfl (fun K hK => ?_)
          refine wp_append ty_u64s (.tmp 32) (.tmp 34) rfl rfl ((hrow.keep HK3.out fun _ _ x => x).keep kB fun _ _ x => x) (some ⟨w3.heap.size, 0, none⟩) 1 1 (u64V [s]) rfl hev (one_u64 _) (by unfold maxLen; omega) (by omega) ?_
          intro v6 w6 hr6 hk6 hv6
          refine hK _ _ ?_
          clear hK K
          have HZ2 := hid (show RHRel w g most (s + 1) (n + 1) v6 w6 from by
            have hmem : s ∈ gapsOf g := (gapsOf_mem HI.out.2.2.rising s).2 ⟨by omega, by
              rcases (top_spec HI.out.2.2.rising).2.2 with h | ⟨e, he, h⟩
              · have := Htp.out; omega
              · exact ⟨e, he, by have := Htp.out; omega⟩, fun h => HZ.out ((perm_has HI.out.2.1 s).2 h)⟩
            have hrise := gapsOf_rise HI.out.2.2.rising
            rw [← hsum, List.pairwise_append] at hrise
            obtain ⟨rest', rfl⟩ : ∃ rest', rest = s :: rest' := by
              rw [← hsum, List.mem_append] at hmem
              have hin : s ∈ rest := by
                rcases hmem with h | h
                · have := hlt s h; omega
                · exact h
              cases rest with
              | nil => simp at hin
              | cons r rest' =>
                rcases List.mem_cons.1 hin with h | h
                · exact ⟨rest', by rw [h]⟩
                · have h1 := (List.pairwise_cons.1 hrise.2.1).1 s h
                  have h2 := hge r List.mem_cons_self
                  omega
            have h1 := HR.out.own
            have h2 := HKw.out.size
            have h3 := kB.size
            refine ⟨⟨es ++ [s], rest', ?_, by simp [hel], by rw [← hsum]; simp, fun t ht => ?_, by omega, fun t ht => ?_⟩, fun k e => ?_, (HKw.out.next kB (fun _ _ x => x) (fun _ _ x => x)).next hk6 (fun _ _ x => x) (fun k hk x => by have := h1 k x; omega)⟩
            · have e1 : u64V (es ++ [s]) = u64V es ++ u64V [s] := by simp [u64V]
              rw [e1]
              exact hr6
            · exact (List.pairwise_cons.1 hrise.2.1).1 t ht
            · rcases List.mem_append.1 ht with h | h
              · have := hlt t h; omega
              · rw [List.mem_singleton] at h; omega
            · rcases hv6 with ⟨_, z⟩ | ⟨k', y, z⟩
              · exact absurd z (by omega)
              · rw [e] at y
                cases y
                rcases z with z | z
                · exact h1 k z
                · omega)
          obtain ⟨ao6, c6, rfl, -⟩ := hr6.form
          clear hr6 hk6 hv6 hev hB kB hwB hrow hel hsum hge hnn hlt
          go_wp2_with (at_builtin; refine stopAt ?_; intro q hq)
          exact ⟨⟨s + 1, n + 1, by omega, by omega, by omega, by go_num, HZ2⟩, by simp [intOf]; omega⟩
        · have q6 : decide ((j : Int) < 0) = false := by simp
          have HZ2 := hid (show RHRel w g most (s + 1) n (.slice ao n c) w3 from by
            obtain ⟨hrow, hel, hsum, hge, hnn, hlt⟩ := HE.out
            have hh : Has g.l s := (perm_has HI.out.2.1 s).1 ⟨rl[j].2, by rw [← hz]; exact List.getElem_mem hj⟩
            refine ⟨⟨es, rest, hrow.keep HK3.out fun _ _ x => x, hel, hsum, fun t ht => ?_, hnn, fun t ht => by have := hlt t ht; omega⟩, HR.out.own, HKw.out⟩
            have h1 := hge t ht
            have h2 := ((gapsOf_mem HI.out.2.2.rising t).1 (by rw [← hsum]; exact List.mem_append_right _ ht)).2.2
            rcases Nat.lt_or_eq_of_le h1 with x | x
            · exact x
            · rw [← x] at h2; exact absurd hh h2)
          clear hz hj
          go_wp2_with (at_builtin; refine stopAt ?_; intro q hq)
          exact ⟨⟨s + 1, n, by omega, by omega, by omega, by go_num, HZ2⟩, by simp [intOf]; omega⟩
      · have q2 : decide ((n : Int) < most) = false := by simpa using hnm
        have HO := hid (show OutU w (RM.holes g most) (.returned (.slice ao n c)) wr from by
          obtain ⟨hrow, hel, hsum, hge, hnn, hlt⟩ := HE.out
          have e : RM.holes g most = es := by
            rw [holes_eq, ← hsum]
            exact List.take_left' (by omega)
          rw [e]
          exact ⟨_, rfl, by rw [hel]; exact hrow, HR.out.own, HR.out.keep⟩)
        go_wp2_with (at_builtin; refine stopAt ?_; intro q hq)
        go_ret
        exact HO.out
    · have q1 : decide ((s : Int) < (tp : Int)) = false := by simp; omega
      have q1' : decide (s < tp) = false := by simpa using hst
      have HO := hid (show OutU w (RM.holes g most) (.returned (.slice ao n c)) wr from by
        obtain ⟨hrow, hel, hsum, hge, hnn, hlt⟩ := HE.out
        have hr0 : rest = [] := List.eq_nil_iff_forall_not_mem.2 fun t ht => by
          have h1 := hge t ht
          obtain ⟨_, ⟨e, he, h2⟩, _⟩ := (gapsOf_mem HI.out.2.2.rising t).1 (by rw [← hsum]; exact List.mem_append_right _ ht)
          have := (top_spec HI.out.2.2.rising).1 e he
          have := Htp.out
          omega
        rw [hr0, List.append_nil] at hsum
        have e : RM.holes g most = es := by
          rw [holes_eq, ← hsum]
          exact List.take_of_length_le (by omega)
        rw [e]
        exact ⟨_, rfl, by rw [hel]; exact hrow, HR.out.own, HR.out.keep⟩)
      go_wp2_with (at_builtin; refine stopAt ?_; intro q hq)
      go_ret
      exact HO.out
end Go.Proofs.Ytnignhfallhblaa
