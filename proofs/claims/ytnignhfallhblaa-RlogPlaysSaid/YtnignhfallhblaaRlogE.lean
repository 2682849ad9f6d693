/- rlog: contracts for Install and Top. Conditions: as the contracts name them. -/
import Derived.Test.YtnignhfallhblaaRlogD
namespace Go.Proofs.Ytnignhfallhblaa
open Go.RowKit
open RM

set_option maxRecDepth 20000 in
set_option maxHeartbeats 1000000 in
theorem install_any (w : World) (b : Nat) (F : Nat → Prop) (g : Lg) (s : Nat) (hL : LogAt w b F g) (hs : s < 18446744073709551616) :
    Calls Try.prog 22 #[.pointer (some ⟨b, 0, none⟩), .int .u64 s] w fun e w' => e = .returned (.bool (RM.install g s).1) ∧ LogAt w' b F (RM.install g s).2 ∧ Keep F w w' := by
  have HL := hid hL
  obtain ⟨v, us, hI⟩ := hL
  obtain ⟨a0, a1, af, -⟩ := cells2 hI.head
  have HI := hid hI
  clear hI
  unfold RM.install
  by_cases h1 : s ≤ g.ap
  · rw [if_pos (.inl h1)]
    have t1 : decide (s ≤ g.ap) = true := by simpa using h1
    clear h1
    go_enter Try.func22, Try.ntmps22
    go_wp2_with (at_builtin; refine stopAt ?_; intro q hq)
    go_ret
    exact ⟨by rfl, HL.out, Keep.refl _ _⟩
  · by_cases h2 : s = 18446744073709551615
    · rw [if_pos (.inr h2)]
      have t1 : decide (s ≤ g.ap) = false := by simpa using h1
      have t2 : ((s : Int) == 18446744073709551615) = true := by rw [beq_iff_eq]; omega
      clear h1 h2
      go_enter Try.func22, Try.ntmps22
      go_wp2_with (at_builtin; refine stopAt ?_; intro q hq)
      go_ret
      exact ⟨by rfl, HL.out, Keep.refl _ _⟩
    · rw [if_neg (by omega)]
      have t1 : decide (s ≤ g.ap) = false := by simpa using h1
      have t2 : ((s : Int) == 18446744073709551615) = false := by simp; omega
      have ok : RM.Ok { g with ap := s } := ⟨HI.out.ok.rising, HI.out.ok.slots, HI.out.ok.vals, HI.out.ok.few, show s < _ by omega⟩
      have k3 : Keep F w (w.setCell ⟨b, 0, none⟩ (.int .u64 (s : Nat))) := (Keep.refl _ _).setCell (.inl HI.out.self) _
      have HX := hid (And.intro (HI.out.step s ok) k3)
      clear h1 ok k3
      go_enter Try.func22, Try.ntmps22
      go_wp2_with (at_builtin; refine stopAt ?_; intro q hq)
      refine (trim_any _ b F { g with ap := s } s ⟨_, _, HX.out.1⟩).mono ?_
      rintro e w3 ⟨rfl, hL3, hk3⟩
      have HY := hid (And.intro hL3 (HX.out.2.next hk3 (fun _ _ x => x) (fun _ _ x => x)))
      clear hL3 hk3
      go_wp2_with (at_builtin; refine stopAt ?_; intro q hq)
      go_ret
      exact ⟨by rfl, HY.out⟩

set_option maxRecDepth 20000 in
set_option maxHeartbeats 1000000 in
theorem top_any (w : World) (b : Nat) (F : Nat → Prop) (g : Lg) (hL : LogAt w b F g) :
    Calls Try.prog 23 #[.pointer (some ⟨b, 0, none⟩)] w fun e w' => e = .returned (.int .u64 (RM.top g : Nat)) ∧ Keep (fun _ => False) w w' := by
  obtain ⟨v, us, hI⟩ := hL
  obtain ⟨ad, cap, rfl, -⟩ := hI.row.form
  obtain ⟨a0, a1, af, -⟩ := cells2 hI.head
  have HI := hid hI
  obtain ⟨G, hG⟩ : ∃ G, G = RM.top g := ⟨_, rfl⟩
  rw [← hG]
  unfold RM.top at hG
  by_cases h0 : g.l.length = 0
  · have hl : g.l = [] := List.eq_nil_of_length_eq_zero h0
    rw [hl] at hG a1
    have HG := hid hG
    clear hI hG hl
    go_enter Try.func23, Try.ntmps23
    go_wp2_with (at_builtin; refine stopAt ?_; intro q hq)
    go_ret
    exact ⟨by rw [HG.out]; rfl, Keep.refl _ _⟩
  · obtain ⟨gr, cap', ao, c, hv, e0, e1, e2, e3⟩ := hI.ent (g.l.length - 1) (by omega)
    cases hv
    have hg : g.l.getLast? = some g.l[g.l.length - 1] := by rw [List.getLast?_eq_getElem?, List.getElem?_eq_getElem (by omega)]
    rw [hg] at hG
    simp only at hG
    obtain ⟨x, hx⟩ : ∃ x, x = g.l[g.l.length - 1].1 := ⟨_, rfl⟩
    rw [← hx] at hG e0
    obtain ⟨len, hlen⟩ : ∃ z, z = g.l.length := ⟨_, rfl⟩
    rw [← hlen] at a1 e0 h0
    obtain ⟨m, hm⟩ : ∃ m, m = len - 1 := ⟨_, rfl⟩
    rw [← hm] at e0
    have t1 : ((len : Int) == 0) = false := by simp; omega
    have t2 : (len : Int) - 1 = (m : Int) := by omega
    have t3 : (m : Int) < len := by omega
    have t4 : IntKind.i64.wrap (m : Int) = (m : Int) := by have hh : len ≤ 4096 := (by rw [hlen]; exact hI.ok.few); have hh2 : m < 9223372036854775808 := (by omega); simp [IntKind.wrap, IntKind.signed, IntKind.bits]; omega
    have t5 : 0 ≤ (m : Int) ∧ (m : Int) < (len : Int) := by omega
    have hlm : len ≤ 4096 := by rw [hlen]; exact hI.ok.few
    have HG := hid hG
    clear hI hG hx hg e1 e2 e3 hlen h0 hm
    go_enter Try.func23, Try.ntmps23
    go_wp2_with (at_builtin; refine stopAt ?_; intro q hq)
    refine wp_region_canon [] (by kernel_rfl) (by kernel_rfl) ?_
    repeat (first | (apply wpC_pure (by rfl); (intro K w'; go_simp; (simp only [t4]); first | exact fun x => ⟨rfl, x⟩ | exact fun x => ⟨trivial, x⟩ | exact id)) | (apply wpC_pure (by rfl); (intro K w'; go_simp; exact id)) | (apply wpC_load (by rfl); (intro K; go_simp; exact id)))
    rcases Nat.lt_or_ge g.ap x with hlt | hlt
    · have q1 : max g.ap x = x := by omega
      repeat (first | (apply wpC_pure (by rfl); (intro K w'; go_simp; exact id)) | (apply wpC_load (by rfl); (intro K; go_simp; exact id)))
      refine wpC_nil ?_
      go_wp2_with (at_builtin; refine stopAt ?_; intro q hq)
      go_ret
      exact ⟨by rw [HG.out, q1]; rfl, (Keep.refl _ _).drew⟩
    · have q1 : max g.ap x = g.ap := by omega
      have hlt' : ¬ g.ap < x := by omega
      repeat (first | (apply wpC_pure (by rfl); (intro K w'; go_simp; exact id)) | (apply wpC_load (by rfl); (intro K; go_simp; exact id)))
      refine wpC_nil ?_
      go_wp2_with (at_builtin; refine stopAt ?_; intro q hq)
      go_ret
      exact ⟨by rw [HG.out, q1]; rfl, (Keep.refl _ _).drew⟩
end Go.Proofs.Ytnignhfallhblaa
