/- seawalllaw12.RlogInstalls' walk. Conditions: as the contract names them. -/
import Derived.Test.YtnignhfallhblaaRlogW
namespace Go.Proofs.Ytnignhfallhblaa
open Go.RowKit
open RM

theorem RM.install_spec {g : Lg} (hok : RM.Ok g) {u : Nat} (hu : u < 18446744073709551615) :
    (g.ap < u → (RM.install g u).1 = true ∧ (RM.install g u).2.ap = u ∧ (∀ e ∈ (RM.install g u).2.l, u < e.1) ∧ RM.install (RM.install g u).2 u = (false, (RM.install g u).2)) ∧ (u ≤ g.ap → RM.install g u = (false, g)) := by
  constructor
  · intro h
    have e : RM.install g u = (true, (RM.trim { g with ap := u } u).2) := by
      unfold RM.install
      rw [if_neg (by omega)]
    rw [e]
    have hap : (RM.trim { g with ap := u } u).2.ap = u := rfl
    refine ⟨rfl, hap, fun x hx => ?_, ?_⟩
    · unfold RM.trim at hx
      simp only [Nat.min_self] at hx
      have := ((mem_from hok.rising (u + 1) x).1 hx).2
      omega
    · generalize (RM.trim { g with ap := u } u).2 = r at hap ⊢
      unfold RM.install
      rw [if_pos (.inl (by omega))]
  · intro h
    unfold RM.install
    rw [if_pos (.inl h)]
theorem RM.learn_below {g : Lg} {s : Nat} {v : List UInt8} (h1 : 0 < s) (h2 : s ≤ g.ap) (h3 : ¬ Has g.l s) (h4 : v.length ≤ 100) (h5 : s < 18446744073709551615) : (RM.learn g s v).1 = 0 := by
  unfold RM.learn
  rw [if_neg (by omega), if_neg (by omega), kept_none.2 h3]
  simp only
  rw [if_pos h2]

theorem max_any (w : World) (a b : Nat) : (Builtin.max_ #[26, 26] 26 #[.int .u64 (a : Int), .int .u64 (b : Int)]).run Try.prog w = .ok (.int .u64 ((max a b : Nat) : Int)) w := by
  rcases Nat.lt_or_ge a b with q | q
  · rw [Nat.max_eq_right (by omega)]
    simp [Builtin.max_, Builtin.max2]
    omega
  · rw [Nat.max_eq_left q]
    simp [Builtin.max_, Builtin.max2]
    omega

def IOk (ok : Bool) (u t : Nat) (g : Lg) : Prop := ok = true → t = u ∧ ∀ e ∈ g.l, u < e.1
structure IRel (w : World) (a : Nat) (ok : Bool) (u t : Nat) (wr : World) : Prop where
  ex : ∃ A g, One w a A g wr ∧ g.ap = t ∧ IOk ok u t g

set_option maxRecDepth 20000 in
set_option maxHeartbeats 4000000 in
theorem installs_walk (w : World) (v0 : Value) (L : List ActL) (h0 : Acts w v0 L) (up : Int) (hu0 : 0 ≤ up) (hu1 : up ≤ 18446744073709551615) (v2 : Value) (M : List ActL) (h2 : Acts w v2 M) :
    Calls Try.prog 6 #[v0, .int .u64 up, v2] w fun e w' => e = .returned (.bool true) ∧ Keep (fun _ => False) w w' := by
  obtain ⟨ao0, c0, rfl, hc0, hm0⟩ := h0.form
  obtain ⟨ao2, c2, rfl, hc2, hm2⟩ := h2.form
  have H0 := hid h0
  have H2 := hid h2
  clear h0 h2
  obtain ⟨m, hm⟩ : ∃ m, m = L.length := ⟨_, rfl⟩
  obtain ⟨m2, hm22⟩ : ∃ m, m = M.length := ⟨_, rfl⟩
  rw [← hm] at H0 hc0 ⊢
  rw [← hm22] at H2 hc2 ⊢
  have Hm := hid (And.intro hm hm22)
  have hmm : m ≤ maxLen := by omega
  have hmm2 : m2 ≤ maxLen := by omega
  have hm63 : (m : Int) ≤ 9223372036854775807 := by unfold maxLen at hmm; omega
  have hm263 : (m2 : Int) ≤ 9223372036854775807 := by unfold maxLen at hmm2; omega
  clear hm hm0 hc0 hm22 hm2 hc2
  obtain ⟨u, hu⟩ : ∃ u : Nat, (u : Int) = up % 40 := ⟨(up % 40).toNat, by omega⟩
  have hu40 : u < 40 := by omega
  have q0 : up % 40 = (u : Int) := hu.symm
  clear hu
  go_enter Try.func6, Try.ntmps6
  go_wp2_with (at_builtin; refine stopAt ?_; intro q hq)
  refine (long_any w w ao0 m c0 L H0.out (Keep.refl _ _) Hm.out.1 hmm).mono ?_
  rintro e w1 ⟨bl, rfl, hk1⟩
  have HK1 := hid hk1
  clear hk1
  cases bl with
  | true =>
    go_wp2_with (at_builtin; refine stopAt ?_; intro q hq)
    refine (known_any _).mono ?_
    rintro e w9 ⟨rfl, hk9⟩
    have HK := hid (HK1.out.next hk9 (fun _ _ x => x) (fun _ _ x => x))
    clear hk9
    go_wp2_with (at_builtin; refine stopAt ?_; intro q hq)
    go_ret
    exact ⟨by first | rfl | trivial, HK.out⟩
  | false =>
  go_wp2_with (at_builtin; refine stopAt ?_; intro q hq)
  refine (long_any w w1 ao2 m2 c2 M H2.out HK1.out Hm.out.2 hmm2).mono ?_
  rintro e w2 ⟨bl, rfl, hk2⟩
  have HK2 := hid (HK1.out.next hk2 (fun _ _ x => x) (fun _ _ x => x))
  clear hk2
  cases bl with
  | true =>
    go_wp2_with (at_builtin; refine stopAt ?_; intro q hq)
    refine (known_any _).mono ?_
    rintro e w9 ⟨rfl, hk9⟩
    have HK := hid (HK2.out.next hk9 (fun _ _ x => x) (fun _ _ x => x))
    clear hk9
    go_wp2_with (at_builtin; refine stopAt ?_; intro q hq)
    go_ret
    exact ⟨by first | rfl | trivial, HK.out⟩
  | false =>
  go_wp2_with (at_builtin; refine stopAt ?_; intro q hq)
  refine (new_any w2).mono ?_
  rintro e w3 ⟨a, A, rfl, hLa, hka, hA⟩
  have HS := hid (show HRel w a w3 from ⟨A, _, One.make HK2.out hLa hka hA, fun e he => by simp at he, Nat.zero_le _⟩)
  clear hLa hka hA HK1 HK2
  go_upto_block 0 with fail
  go_cut [8] (fun s8 wx => Hid (HRel w a wx))
  case first =>
    go_wp2_with (at_builtin; refine stopAt ?_; intro q hq)
    go_loopw [8] (fun iv wr => ∃ i : Nat, i ≤ m ∧ i ≤ 60 ∧ iv = .int .i64 i ∧ Hid (HRel w a wr)) (fun iv _ => m - (intOf iv).toNat)
    case atStart => exact ⟨0, Nat.zero_le _, Nat.zero_le _, rfl, HS⟩
    case round =>
      clear HS
      obtain ⟨i, hi, hi2, rfl, HS⟩ := hrel
      by_cases h1 : i < m
      · have q1 : (i : Int) < m := by omega
        by_cases h2 : i < 60
        · have q2 : (i : Int) < 60 := by omega
          obtain ⟨A, g, hO, hsm⟩ := HS.out.ex
          obtain ⟨ad, bo, d, rfl, e0, e1, e2, hb, hkd, hsl, hvl⟩ := Acts.get H0.out hO.keep i (by rw [← Hm.out.1]; exact h1)
          obtain ⟨x, hx⟩ : ∃ x, x = L[i]'(by rw [← Hm.out.1]; exact h1) := ⟨_, rfl⟩
          rw [← hx] at e0 e1 e2 hb hkd hsl hvl
          clear hx
          obtain ⟨kd, hkd2⟩ : ∃ k, k = x.kind := ⟨_, rfl⟩
          obtain ⟨sl, hsl2⟩ : ∃ k, k = x.slot := ⟨_, rfl⟩
          rw [← hkd2] at e0 hkd
          rw [← hsl2] at e1 hsl
          obtain ⟨hkd1, hkd3⟩ := hkd
          have HX := hid (And.intro hO (And.intro hsm hb))
          obtain ⟨s, hs⟩ : ∃ s, s = sl % 30 := ⟨_, rfl⟩
          have hs60 : s < 30 := by omega
          have q3 : (sl : Int) % 30 = (s : Int) := by omega
          obtain ⟨bl, hbl⟩ : ∃ bl, bl = x.value.length := ⟨_, rfl⟩
          have Hbl := hid hbl
          have hvl2 : bl ≤ 9223372036854775807 := by unfold maxLen at hvl; omega
          rw [← hbl] at e2
          clear hO hsm hb hs hvl hbl hkd2 hsl2
          by_cases hk3 : kd ≤ 3
          · have q4 : decide (kd ≤ 3) = true := by simpa using hk3
            have f1 := fun s : Later wr => s.cell e1
            have f2 := fun s : Later wr => s.cell e2
            go_wp2_with (at_builtin; refine stopAt ?_; intro q hq)
            (refine wp_region_tail 12 (by kernel_rfl) (by kernel_rfl) ?_; simp only [List.take_succ_cons, List.take_zero, List.drop_succ_cons, List.drop_zero]; (repeat (go_big_quiet_step ((fail)))); refine wpQuiet_nil ?_; rintro _ ⟨sq, rfl⟩)
            clear f1 f2 e0 e1 e2
            go_wp2_with (at_builtin; refine stopAt ?_; intro q hq)
            obtain ⟨hO, hsm, hb⟩ := HX.out
            rw [← Hbl.out] at hb
            refine (learn_any sq.val a A g s bo bl d x.value (hO.read sq.keep).at_ (hb.keep sq.keep fun _ _ x => x) (by omega) (by omega)).mono ?_
            rintro e w4 ⟨rfl, ht3⟩
            obtain ⟨A3, hO3, -⟩ := (hO.read sq.keep).to ht3
            have HZ := hid (show HRel w a w4 from ⟨A3, _, hO3, hsm.learn s x.value (by omega)⟩)
            clear hO hsm hb ht3 hO3 HX
            go_wp2_with (at_builtin; refine stopAt ?_; intro q hq)
            exact ⟨⟨i + 1, by omega, by omega, by go_num, HZ⟩, by simp [intOf]; omega⟩
          · have q4 : decide (kd ≤ 3) = false := by simpa using hk3
            clear e1 e2
            go_wp2_with (at_builtin; refine stopAt ?_; intro q hq)
            obtain ⟨hO, hsm, hb⟩ := HX.out
            refine (apply_any wr a A g hO.at_).mono ?_
            rintro e w4 ⟨hap, hL3, hk3⟩
            have HZ := hid (show HRel w a w4 from ⟨A, _, hO.same hL3 hk3, hsm.apply⟩)
            obtain ⟨v, rfl⟩ := hap.ret
            clear hO hsm hb hap hL3 hk3 e0
            go_wp2_with (at_builtin; refine stopAt ?_; intro q hq)
            exact ⟨⟨i + 1, by omega, by omega, by go_num, HZ⟩, by simp [intOf]; omega⟩
        · have q2 : decide ((i : Int) < 60) = false := by simp; omega
          go_wp2_with (at_builtin; refine stopAt ?_; intro q hq)
          go_meet
          exact HS
      · have q1 : decide ((i : Int) < (m : Int)) = false := by simp; omega
        go_wp2_with (at_builtin; refine stopAt ?_; intro q hq)
        go_meet
        exact HS
  case rest =>
    clear HS
    obtain ⟨A, g, hO, hsm⟩ := hcut.out.ex
    clear hcut
    obtain ⟨sp1, sp2⟩ := RM.install_spec hO.ok (u := u) (by omega)
    have hap := hsm.ap
    obtain ⟨t, ht⟩ : ∃ t, t = g.ap := ⟨_, rfl⟩
    rw [← ht] at sp1 sp2 hap
    have HO := hid hO
    have Ht := hid ht
    have HP := hid (And.intro sp1 sp2)
    clear hO hsm sp1 sp2 ht
    go_wp2_with (at_builtin; refine stopAt ?_; intro q hq)
    refine (applied_any wc a A g HO.out.at_).mono ?_
    rintro e w4 ⟨rfl, hk4⟩
    have HO := hid (HO.out.read hk4)
    rw [← Ht.out]
    clear hk4
    go_wp2_with (at_builtin; refine stopAt ?_; intro q hq)
    refine (install_any w4 a A g u HO.out.at_ (by omega)).mono ?_
    rintro e w5 ⟨rfl, hL5, hk5⟩
    have HO := hid (HO.out.same hL5 hk5)
    clear hL5 hk5
    have hmx := fun w : World => max_any w t u
    rcases Nat.lt_or_ge t u with htu | htu
    · obtain ⟨i1, i2, i3, i4⟩ := HP.out.1 htu
      rw [i1]
      have q1 : decide ((t : Int) < (u : Int)) = true := by simp; omega
      have q2 : decide (t < u) = true := by simpa using htu
      rw [Nat.max_eq_right (by omega)] at hmx
      have HC := hid (show RM.catch_ (RM.install g u).2 u 1 = [] from RM.catch_none HO.out.ok (kept_none.2 fun ⟨v, hv⟩ => by have := i3 _ hv; simp only at this; omega) 1)
      have HI := hid (And.intro i2 (And.intro i3 i4))
      clear i1 i2 i3 i4 HP
      go_wp2_with (at_builtin; refine stopAt ?_; intro q hq)
      refine (install_any w5 a A _ u HO.out.at_ (by omega)).mono ?_
      rintro e w6 ⟨rfl, hL6, hk6⟩
      rw [HI.out.2.2] at hL6 ⊢
      have HO := hid (HO.out.same hL6 hk6)
      clear hL6 hk6
      go_wp2_with (at_builtin; refine stopAt ?_; intro q hq)
      clear hmx
      refine (applied_any w6 a A _ HO.out.at_).mono ?_
      rintro e w7 ⟨rfl, hk7⟩
      have HO := hid (HO.out.read hk7)
      rw [HI.out.1]
      clear hk7
      go_wp2_with (at_builtin; refine stopAt ?_; intro q hq)
      refine (catch_any w7 a A _ u 1 HO.out.at_ (by decide) (by decide) (by omega)).mono ?_
      rintro e w8 ⟨vc, us, rfl, hE, hk8⟩
      rw [HC.out] at hE
      obtain ⟨aoc, cc, rfl, -⟩ := hE.row.form
      have HS := hid (show IRel w a true u u w8 from ⟨A, _, HO.out.read hk8, HI.out.1, fun _ => ⟨rfl, HI.out.2.1⟩⟩)
      clear hE hk8 HO HI HC
      go_upto_block 2 with fail
      go_cut [12, 13, 14] (fun s12 s13 s14 wx => Hid (IRel w a true u u wx))
      case first =>
        go_wp2_with (at_builtin; refine stopAt ?_; intro q hq)
        go_loopw [12, 13, 14] (fun iv _ _ wr => ∃ i : Nat, i ≤ m2 ∧ i ≤ 60 ∧ iv = .int .i64 i ∧ Hid (IRel w a true u u wr)) (fun iv _ _ _ => m2 - (intOf iv).toNat)
        case atStart => exact ⟨0, Nat.zero_le _, Nat.zero_le _, rfl, HS⟩
        case round =>
          clear HS
          obtain ⟨i, hi, hi2, rfl, HS⟩ := hrel
          by_cases h1 : i < m2
          · have q3 : (i : Int) < m2 := by omega
            by_cases h2 : i < 60
            · have q4 : (i : Int) < 60 := by omega
              obtain ⟨A, g, hO, hgt, hok⟩ := HS.out.ex
              obtain ⟨ad, bo, d, rfl, e0, e1, e2, hb, -, hsl, hvl⟩ := Acts.get H2.out hO.keep i (by rw [← Hm.out.2]; exact h1)
              obtain ⟨x, hx⟩ : ∃ x, x = M[i]'(by rw [← Hm.out.2]; exact h1) := ⟨_, rfl⟩
              have Hx := hid hx
              rw [← hx] at e1 e2 hb hsl hvl
              clear hx e0
              obtain ⟨sl, hsl2⟩ : ∃ k, k = x.slot := ⟨_, rfl⟩
              rw [← hsl2] at e1 hsl
              have HX := hid (And.intro hO (And.intro hgt (And.intro hok hb)))
              obtain ⟨s, hs⟩ : ∃ s, s = sl % 60 := ⟨_, rfl⟩
              have hs60 : s < 60 := by omega
              have q5 : (sl : Int) % 60 = (s : Int) := by omega
              obtain ⟨bl, hbl⟩ : ∃ bl, bl = x.value.length := ⟨_, rfl⟩
              have Hbl := hid hbl
              have hvl2 : bl ≤ 9223372036854775807 := by unfold maxLen at hvl; omega
              rw [← hbl] at e2
              clear hO hgt hok hb hs hvl hbl hsl2
              go_wp2_with (at_builtin; refine stopAt ?_; intro q hq)
              obtain ⟨hO, hgt, hok, hb⟩ := HX.out
              rw [← Hbl.out] at hb
              refine (learn_any wr a A g s bo bl d x.value hO.at_ hb (by omega) (by omega)).mono ?_
              rintro e w4 ⟨rfl, ht3⟩
              obtain ⟨A3, hO3, -⟩ := hO.to ht3
              have HZ := hid (show IRel w a true u u w4 from ⟨A3, _, hO3, by rw [learn_ap]; exact hgt, fun h => ⟨(hok h).1, fun e he => by
                rcases learn_mem he with y | ⟨rfl, y⟩
                · exact (hok h).2 e y
                · have := (hok h).1; simp only; omega⟩⟩)
              obtain ⟨ad', bo', d', hadd, -, -, f2, -⟩ := Acts.get H2.out hO3.keep i (by rw [← Hm.out.2]; exact h1)
              cases hadd
              rw [← Hx.out, ← Hbl.out] at f2
              obtain ⟨r, hr⟩ : ∃ r, r = (RM.learn g s x.value).1 := ⟨_, rfl⟩
              have hlow : true = true → 0 < s → s ≤ u → bl ≤ 100 → r = 0 := fun (h : true = true) a1 a2 a3 => by
                have := (hok h).1
                rw [hr]
                exact RM.learn_below a1 (by omega) (fun ⟨v, hv⟩ => by have := (hok h).2 _ hv; simp only at this; omega) (by rw [← Hbl.out]; exact a3) (by omega)
              rw [← hr]
              have Hlow := hid hlow
              clear hO hgt hok hb ht3 hO3 HX e1 e2 hr hlow
              by_cases p1 : 0 < s
              · have p1' : decide (0 < s) = true := by simpa using p1
                have p1'' : decide ((0 : Int) < (s : Int)) = true := by simp; omega
                by_cases p2 : s ≤ u
                · have p2' : decide (s ≤ u) = true := by simpa using p2
                  have p2'' : decide ((s : Int) ≤ (u : Int)) = true := by simp; omega
                  by_cases p3 : bl ≤ 100
                  · have p3' : decide ((bl : Int) ≤ 100) = true := by simp; omega
                    obtain rfl : r = 0 := Hlow.out rfl p1 p2 p3
                    go_wp2_with (at_builtin; refine stopAt ?_; intro q hq)
                    exact ⟨⟨i + 1, by omega, by omega, by go_num, HZ⟩, by simp [intOf]; omega⟩
                  · have p3' : decide ((bl : Int) ≤ 100) = false := by simp; omega
                    go_wp2_with (at_builtin; refine stopAt ?_; intro q hq)
                    exact ⟨⟨i + 1, by omega, by omega, by go_num, HZ⟩, by simp [intOf]; omega⟩
                · have p2' : decide (s ≤ u) = false := by simpa using p2
                  have p2'' : decide ((s : Int) ≤ (u : Int)) = false := by simp; omega
                  go_wp2_with (at_builtin; refine stopAt ?_; intro q hq)
                  exact ⟨⟨i + 1, by omega, by omega, by go_num, HZ⟩, by simp [intOf]; omega⟩
              · have p1' : decide (0 < s) = false := by simpa using p1
                have p1'' : decide ((0 : Int) < (s : Int)) = false := by simp; omega
                go_wp2_with (at_builtin; refine stopAt ?_; intro q hq)
                exact ⟨⟨i + 1, by omega, by omega, by go_num, HZ⟩, by simp [intOf]; omega⟩
            · have q4 : decide ((i : Int) < 60) = false := by simp; omega
              go_wp2_with (at_builtin; refine stopAt ?_; intro q hq)
              go_meet
              exact HS
          · have q3 : decide ((i : Int) < (m2 : Int)) = false := by simp; omega
            go_wp2_with (at_builtin; refine stopAt ?_; intro q hq)
            go_meet
            exact HS
      case rest =>
        clear HS
        obtain ⟨A, g, hO, hgt, -⟩ := hcut.out.ex
        clear hcut
        have HX := hid (And.intro hO hgt)
        clear hO hgt
        go_wp2_with (at_builtin; refine stopAt ?_; intro q hq)
        refine (rest_any wc a A g HX.out.1.at_).mono ?_
        rintro e w6 ⟨vx, ux, rfl, hEx, hLx, hkx⟩
        have HO := hid (HX.out.1.same hLx hkx)
        have HE := hid hEx
        obtain ⟨aox, cx, rfl, -⟩ := hEx.row.form
        obtain ⟨lx, hlx⟩ : ∃ z, z = (RM.rest 300 g).1.length := ⟨_, rfl⟩
        have hlx3 : lx ≤ 300 := by rw [hlx, (rest_next 300 HX.out.1.ok.rising (next_is HX.out.1.ok)).1]; omega
        rw [← hlx] at HE ⊢
        have Hl := hid hlx
        clear hEx hLx hkx hlx
        go_wp2_with (at_builtin; refine stopAt ?_; intro q hq)
        go_loopw [16] (fun iv w' => ∃ i : Nat, i ≤ lx ∧ iv = .int .i64 i ∧ Hid (w' = w6)) (fun iv _ => lx - (intOf iv).toNat)
        case atStart => exact ⟨0, Nat.zero_le _, rfl, hid (by first | rfl | trivial)⟩
        case round =>
          obtain ⟨j, hj, rfl, HW⟩ := hrel
          have hw6 := HW.out.symm
          subst hw6
          by_cases hjl : j < lx
          · have q3 : (j : Int) < lx := by omega
            have hjl' : j < (RM.rest 300 g).1.length := by rw [← Hl.out]; exact hjl
            obtain ⟨gr, cap', ao, c, hv, e0, e1, e2⟩ := HE.out.ent j hjl'
            obtain ⟨rfl, rfl⟩ : aox = some ⟨gr, 0, none⟩ ∧ cx = cap' := by rw [← Hl.out] at hv; simpa using hv
            obtain ⟨-, hm2⟩ := RM.rest_mem 300 g j hjl'
            rw [hm2, HX.out.2, show ((u + j + 1 : Nat) : Int) = (u : Int) + (j : Int) + 1 by omega] at e0
            clear e1 e2 hm2 hv
            go_wp2_with (at_builtin; refine stopAt ?_; intro q hq)
            exact ⟨⟨j + 1, by omega, by go_num, hid (by first | rfl | trivial)⟩, by simp [intOf]; omega⟩
          · have q3 : decide ((j : Int) < (lx : Int)) = false := by simp; omega
            clear HW
            go_wp2_with (at_builtin; refine stopAt ?_; intro q hq)
            refine (known_any _).mono ?_
            rintro e w9 ⟨rfl, hk9⟩
            have HK := hid (HO.out.keep.next hk9 (fun _ _ x => x) (fun _ _ x => x))
            clear hk9
            go_wp2_with (at_builtin; refine stopAt ?_; intro q hq)
            go_ret
            exact ⟨by first | rfl | trivial, HK.out⟩
    · have i1 := HP.out.2 htu
      rw [i1]
      have q1 : decide ((t : Int) < (u : Int)) = false := by simp; omega
      have q2 : decide (t < u) = false := by simp; omega
      rw [Nat.max_eq_left htu] at hmx
      rw [i1] at HO
      have HI := hid i1
      clear i1 HP
      go_wp2_with (at_builtin; refine stopAt ?_; intro q hq)
      refine (install_any w5 a A _ u HO.out.at_ (by omega)).mono ?_
      rintro e w6 ⟨rfl, hL6, hk6⟩
      rw [HI.out] at hL6 ⊢
      have HO := hid (HO.out.same hL6 hk6)
      clear hL6 hk6
      go_wp2_with (at_builtin; refine stopAt ?_; intro q hq)
      clear hmx
      refine (applied_any w6 a A _ HO.out.at_).mono ?_
      rintro e w7 ⟨rfl, hk7⟩
      have HO := hid (HO.out.read hk7)
      have HS := hid (show IRel w a false u t w7 from ⟨A, _, HO.out, Ht.out.symm, fun h => by cases h⟩)
      dsimp only
      rw [← Ht.out]
      clear hk7 HO HI
      go_upto_block 2 with fail
      go_cut [12, 13, 14] (fun s12 s13 s14 wx => Hid (IRel w a false u t wx))
      case first =>
        go_wp2_with (at_builtin; refine stopAt ?_; intro q hq)
        go_loopw [12, 13, 14] (fun iv _ _ wr => ∃ i : Nat, i ≤ m2 ∧ i ≤ 60 ∧ iv = .int .i64 i ∧ Hid (IRel w a false u t wr)) (fun iv _ _ _ => m2 - (intOf iv).toNat)
        case atStart => exact ⟨0, Nat.zero_le _, Nat.zero_le _, rfl, HS⟩
        case round =>
          clear HS
          obtain ⟨i, hi, hi2, rfl, HS⟩ := hrel
          by_cases h1 : i < m2
          · have q3 : (i : Int) < m2 := by omega
            by_cases h2 : i < 60
            · have q4 : (i : Int) < 60 := by omega
              obtain ⟨A, g, hO, hgt, hok⟩ := HS.out.ex
              obtain ⟨ad, bo, d, rfl, e0, e1, e2, hb, -, hsl, hvl⟩ := Acts.get H2.out hO.keep i (by rw [← Hm.out.2]; exact h1)
              obtain ⟨x, hx⟩ : ∃ x, x = M[i]'(by rw [← Hm.out.2]; exact h1) := ⟨_, rfl⟩
              have Hx := hid hx
              rw [← hx] at e1 e2 hb hsl hvl
              clear hx e0
              obtain ⟨sl, hsl2⟩ : ∃ k, k = x.slot := ⟨_, rfl⟩
              rw [← hsl2] at e1 hsl
              have HX := hid (And.intro hO (And.intro hgt (And.intro hok hb)))
              obtain ⟨s, hs⟩ : ∃ s, s = sl % 60 := ⟨_, rfl⟩
              have hs60 : s < 60 := by omega
              have q5 : (sl : Int) % 60 = (s : Int) := by omega
              obtain ⟨bl, hbl⟩ : ∃ bl, bl = x.value.length := ⟨_, rfl⟩
              have Hbl := hid hbl
              have hvl2 : bl ≤ 9223372036854775807 := by unfold maxLen at hvl; omega
              rw [← hbl] at e2
              clear hO hgt hok hb hs hvl hbl hsl2
              go_wp2_with (at_builtin; refine stopAt ?_; intro q hq)
              obtain ⟨hO, hgt, hok, hb⟩ := HX.out
              rw [← Hbl.out] at hb
              refine (learn_any wr a A g s bo bl d x.value hO.at_ hb (by omega) (by omega)).mono ?_
              rintro e w4 ⟨rfl, ht3⟩
              obtain ⟨A3, hO3, -⟩ := hO.to ht3
              have HZ := hid (show IRel w a false u t w4 from ⟨A3, _, hO3, by rw [learn_ap]; exact hgt, fun h => ⟨(hok h).1, fun e he => by
                rcases learn_mem he with y | ⟨rfl, y⟩
                · exact (hok h).2 e y
                · have := (hok h).1; simp only; omega⟩⟩)
              obtain ⟨ad', bo', d', hadd, -, -, f2, -⟩ := Acts.get H2.out hO3.keep i (by rw [← Hm.out.2]; exact h1)
              cases hadd
              rw [← Hx.out, ← Hbl.out] at f2
              obtain ⟨r, hr⟩ : ∃ r, r = (RM.learn g s x.value).1 := ⟨_, rfl⟩
              have hlow : false = true → 0 < s → s ≤ u → bl ≤ 100 → r = 0 := fun (h : false = true) a1 a2 a3 => by
                have := (hok h).1
                rw [hr]
                exact RM.learn_below a1 (by omega) (fun ⟨v, hv⟩ => by have := (hok h).2 _ hv; simp only at this; omega) (by rw [← Hbl.out]; exact a3) (by omega)
              rw [← hr]
              have Hlow := hid hlow
              clear hO hgt hok hb ht3 hO3 HX e1 e2 hr hlow
              by_cases p1 : 0 < s
              · have p1' : decide (0 < s) = true := by simpa using p1
                have p1'' : decide ((0 : Int) < (s : Int)) = true := by simp; omega
                by_cases p2 : s ≤ u
                · have p2' : decide (s ≤ u) = true := by simpa using p2
                  have p2'' : decide ((s : Int) ≤ (u : Int)) = true := by simp; omega
                  go_wp2_with (at_builtin; refine stopAt ?_; intro q hq)
                  exact ⟨⟨i + 1, by omega, by omega, by go_num, HZ⟩, by simp [intOf]; omega⟩
                · have p2' : decide (s ≤ u) = false := by simpa using p2
                  have p2'' : decide ((s : Int) ≤ (u : Int)) = false := by simp; omega
                  go_wp2_with (at_builtin; refine stopAt ?_; intro q hq)
                  exact ⟨⟨i + 1, by omega, by omega, by go_num, HZ⟩, by simp [intOf]; omega⟩
              · have p1' : decide (0 < s) = false := by simpa using p1
                have p1'' : decide ((0 : Int) < (s : Int)) = false := by simp; omega
                go_wp2_with (at_builtin; refine stopAt ?_; intro q hq)
                exact ⟨⟨i + 1, by omega, by omega, by go_num, HZ⟩, by simp [intOf]; omega⟩
            · have q4 : decide ((i : Int) < 60) = false := by simp; omega
              go_wp2_with (at_builtin; refine stopAt ?_; intro q hq)
              go_meet
              exact HS
          · have q3 : decide ((i : Int) < (m2 : Int)) = false := by simp; omega
            go_wp2_with (at_builtin; refine stopAt ?_; intro q hq)
            go_meet
            exact HS
      case rest =>
        clear HS
        obtain ⟨A, g, hO, hgt, -⟩ := hcut.out.ex
        clear hcut
        have HX := hid (And.intro hO hgt)
        clear hO hgt
        go_wp2_with (at_builtin; refine stopAt ?_; intro q hq)
        refine (rest_any wc a A g HX.out.1.at_).mono ?_
        rintro e w6 ⟨vx, ux, rfl, hEx, hLx, hkx⟩
        have HO := hid (HX.out.1.same hLx hkx)
        have HE := hid hEx
        obtain ⟨aox, cx, rfl, -⟩ := hEx.row.form
        obtain ⟨lx, hlx⟩ : ∃ z, z = (RM.rest 300 g).1.length := ⟨_, rfl⟩
        have hlx3 : lx ≤ 300 := by rw [hlx, (rest_next 300 HX.out.1.ok.rising (next_is HX.out.1.ok)).1]; omega
        rw [← hlx] at HE ⊢
        have Hl := hid hlx
        clear hEx hLx hkx hlx
        go_wp2_with (at_builtin; refine stopAt ?_; intro q hq)
        go_loopw [16] (fun iv w' => ∃ i : Nat, i ≤ lx ∧ iv = .int .i64 i ∧ Hid (w' = w6)) (fun iv _ => lx - (intOf iv).toNat)
        case atStart => exact ⟨0, Nat.zero_le _, rfl, hid (by first | rfl | trivial)⟩
        case round =>
          obtain ⟨j, hj, rfl, HW⟩ := hrel
          have hw6 := HW.out.symm
          subst hw6
          by_cases hjl : j < lx
          · have q3 : (j : Int) < lx := by omega
            have hjl' : j < (RM.rest 300 g).1.length := by rw [← Hl.out]; exact hjl
            obtain ⟨gr, cap', ao, c, hv, e0, e1, e2⟩ := HE.out.ent j hjl'
            obtain ⟨rfl, rfl⟩ : aox = some ⟨gr, 0, none⟩ ∧ cx = cap' := by rw [← Hl.out] at hv; simpa using hv
            obtain ⟨-, hm2⟩ := RM.rest_mem 300 g j hjl'
            rw [hm2, HX.out.2, show ((t + j + 1 : Nat) : Int) = (t : Int) + (j : Int) + 1 by omega] at e0
            clear e1 e2 hm2 hv
            go_wp2_with (at_builtin; refine stopAt ?_; intro q hq)
            exact ⟨⟨j + 1, by omega, by go_num, hid (by first | rfl | trivial)⟩, by simp [intOf]; omega⟩
          · have q3 : decide ((j : Int) < (lx : Int)) = false := by simp; omega
            clear HW
            go_wp2_with (at_builtin; refine stopAt ?_; intro q hq)
            refine (known_any _).mono ?_
            rintro e w9 ⟨rfl, hk9⟩
            have HK := hid (HO.out.keep.next hk9 (fun _ _ x => x) (fun _ _ x => x))
            clear hk9
            go_wp2_with (at_builtin; refine stopAt ?_; intro q hq)
            go_ret
            exact ⟨by first | rfl | trivial, HK.out⟩
end Go.Proofs.Ytnignhfallhblaa
