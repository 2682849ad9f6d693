/- rlog: a contract for Next. Conditions: as the contract names them. -/
import Derived.Test.YtnignhfallhblaaRlogP
import Derived.Test.YtnignhfallhblaaRlogM2
import Derived.Test.YtnignhfallhblaaLater
import Derived.BigQuiet
namespace Go.Proofs.Ytnignhfallhblaa
open Go.RowKit
open RM

theorem applied_any (w : World) (b : Nat) (F : Nat → Prop) (g : Lg) (hL : LogAt w b F g) :
    Calls Try.prog 21 #[.pointer (some ⟨b, 0, none⟩)] w fun e w' => e = .returned (.int .u64 (g.ap : Nat)) ∧ Keep (fun _ => False) w w' := by
  obtain ⟨v, us, hI⟩ := hL
  obtain ⟨a0, a1, af, -⟩ := cells2 hI.head
  clear hI
  go_enter Try.func21, Try.ntmps21
  go_wp2_with (at_builtin; refine stopAt ?_; intro q hq)
  go_ret
  exact ⟨by rfl, Keep.refl _ _⟩

set_option maxRecDepth 20000 in
set_option maxHeartbeats 1000000 in
theorem next_any (w : World) (b : Nat) (F : Nat → Prop) (g : Lg) (hL : LogAt w b F g) :
    Calls Try.prog 17 #[.pointer (some ⟨b, 0, none⟩)] w fun e w' => e = .returned (.int .u64 (RM.next g : Nat)) ∧ Keep (fun _ => False) w w' := by
  obtain ⟨v, us, hI⟩ := hL
  have hap := hI.ok.ap
  obtain ⟨ad, cap, rfl, -⟩ := hI.row.form
  obtain ⟨a0, a1, af, -⟩ := cells2 hI.head
  have HI := hid hI
  have hf := find_any w b F g (g.ap + 1) ⟨_, _, hI⟩
  rw [show (((g.ap + 1 : Nat) : Nat) : Int) = (g.ap : Int) + 1 by omega] at hf
  have Hf := hid hf
  clear hI hf
  obtain ⟨len, hlen⟩ : ∃ z, z = g.l.length := ⟨_, rfl⟩
  rw [← hlen] at a1
  have Hlen := hid hlen
  have hlm : len ≤ 4096 := by rw [hlen]; exact HI.out.ok.few
  clear hlen
  go_enter Try.func17, Try.ntmps17
  go_wp2_with (at_builtin; refine stopAt ?_; intro q hq)
  refine Hf.out.mono ?_
  rintro e w2 ⟨rfl, hk2⟩
  have HK2 := hid hk2
  clear hk2 a0 a1 af
  go_wp2_with (at_builtin; refine stopAt ?_; intro q hq)
  go_loopw [3, 4] (fun sv iv wr => ∃ i s : Nat, i ≤ len ∧ s ≤ 18446744073709551615 ∧ sv = .int .u64 s ∧ iv = .int .i64 i ∧ Hid (run (g.l.drop i) s = RM.next g) ∧ Hid (Keep (fun _ => False) w wr)) (fun _ iv _ => len - (intOf iv).toNat)
  case atStart => exact ⟨below g.l (g.ap + 1), g.ap + 1, by rw [Hlen.out]; exact below_le _ _, by omega, by go_num, rfl, hid rfl, HK2⟩
  case round =>
    obtain ⟨i, s, hil, hs, rfl, rfl, HE, HK⟩ := hrel
    have hI := HI.out.keep HK.out (fun _ _ x => x)
    obtain ⟨a0, a1, af, -⟩ := cells2 hI.head
    rw [← Hlen.out] at a1
    by_cases hlt : i < len
    · have h4 : (i : Int) < len := by omega
      have hl2 : i < g.l.length := by rw [← Hlen.out]; exact hlt
      obtain ⟨gr, cap', ao, c, hv, e0, e1, e2, e3⟩ := hI.ent i hl2
      cases hv
      have hsl := (HI.out.ok.slots _ (List.getElem_mem hl2)).2
      have hst : run (g.l.drop i) s = if g.l[i].1 = s then run (g.l.drop (i + 1)) (s + 1) else s := by
        rw [List.drop_eq_getElem_cons hl2]; rfl
      obtain ⟨x, hx⟩ : ∃ x, x = g.l[i].1 := ⟨_, rfl⟩
      rw [← hx] at e0 hsl hst
      have Hst := hid hst
      clear hst hI e1 e2 e3 hx
      by_cases hxs : x = s
      · have Hst := hid ((Hst.out).trans (if_pos hxs))
        subst hxs
        go_wp2_with (at_builtin; refine stopAt ?_; intro q hq)
        exact ⟨⟨i + 1, x + 1, by omega, by omega, by go_num, by go_num, hid (Hst.out ▸ HE.out), HK⟩, by simp [intOf]; omega⟩
      · have Hst := hid ((Hst.out).trans (if_neg hxs))
        have t1 : ((x : Int) == (s : Int)) = false := by simp; omega
        clear hxs
        go_wp2_with (at_builtin; refine stopAt ?_; intro q hq)
        go_ret
        exact ⟨by rw [← HE.out, Hst.out]; rfl, HK.out⟩
    · have t2 : decide ((i : Int) < (len : Int)) = false := by simp; omega
      obtain rfl : i = len := by omega
      have Hst := hid (show run (g.l.drop i) s = s by rw [List.drop_eq_nil_of_le (by rw [Hlen.out]; exact Nat.le_refl _)]; rfl)
      clear hI hlt
      go_wp2_with (at_builtin; refine stopAt ?_; intro q hq)
      go_ret
      exact ⟨by rw [← HE.out, Hst.out]; rfl, HK.out⟩
end Go.Proofs.Ytnignhfallhblaa
