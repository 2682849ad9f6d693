/- seawalllaw12.RlogHoles' walk. Conditions: as the contract names them. -/
import Derived.Test.YtnignhfallhblaaRlogF
import Derived.Test.YtnignhfallhblaaRlogM4
import Derived.Test.YtnignhfallhblaaTail
import Derived.Deep.CutBlock
import Derived.Deep.DeepCutAuto
namespace Go.Proofs.Ytnignhfallhblaa
open Go.RowKit
open RM

/-- One log that the call made. -/
structure One (w : World) (a : Nat) (A : Nat → Prop) (g : Lg) (wr : World) : Prop where
  at_ : LogAt wr a A g
  new : ∀ k, A k → w.heap.size ≤ k
  keep : Keep (fun _ => False) w wr
theorem One.ok {w : World} {a : Nat} {A : Nat → Prop} {g : Lg} {wr : World} (h : One w a A g wr) : RM.Ok g := by obtain ⟨_, _, hI⟩ := h.at_; exact hI.ok
theorem One.read {w : World} {a : Nat} {A : Nat → Prop} {g : Lg} {wr w' : World} (h : One w a A g wr) (hk : Keep (fun _ => False) wr w') : One w a A g w' :=
  ⟨h.at_.read hk, h.new, h.keep.next hk (fun _ _ x => x) (fun _ _ x => x)⟩
theorem One.same {w : World} {a : Nat} {A : Nat → Prop} {g g' : Lg} {wr w' : World} (h : One w a A g wr) (hL : LogAt w' a A g') (hk : Keep A wr w') : One w a A g' w' :=
  ⟨hL, h.new, h.keep.next hk (fun _ _ x => x) (fun k hk x => by have := h.new k x; omega)⟩
theorem One.to {w : World} {a : Nat} {A : Nat → Prop} {g g' : Lg} {wr w' : World} (h : One w a A g wr) (t : LogTo a A wr g' w') : ∃ A', One w a A' g' w' ∧ Step A wr A' w' := by
  obtain ⟨A', h1, h2⟩ := t.step
  refine ⟨A', ⟨h1, fun k x => ?_, h.keep.next h2.keep (fun _ _ x => x) (fun k hk x => by have := h.new k x; omega)⟩, h2⟩
  rcases Nat.lt_or_ge k wr.heap.size with y | y
  · exact h.new k (h2.sub k y x)
  · exact Nat.le_trans h.keep.size y
theorem One.make {w0 w w' : World} {a : Nat} {A : Nat → Prop} {g : Lg} (hk0 : Keep (fun _ => False) w0 w) (hL : LogAt w' a A g) (hk : Keep (fun _ => False) w w') (hA : ∀ k, A k → w.heap.size ≤ k) : One w0 a A g w' :=
  ⟨hL, fun k x => Nat.le_trans hk0.size (hA k x), hk0.next hk (fun _ _ x => x) (fun _ _ x => x)⟩
theorem Applies.ret {w w' : World} {o : Option Ent} {e : Ending} (h : Applies w w' o e) : ∃ v, e = .returned v := by
  unfold Applies at h
  split at h
  · exact ⟨_, h⟩
  · obtain ⟨_, _, h, _⟩ := h; exact ⟨_, h⟩

structure HRel (w : World) (a : Nat) (wr : World) : Prop where
  ex : ∃ A g, One w a A g wr ∧ Small g
structure HIn (w : World) (a : Nat) (g0 : Lg) (v : Value) (i : Nat) (wr : World) : Prop where
  ex : ∃ (A : Nat → Prop) (g : Lg) (G : Nat → Prop), One w a A g wr ∧ Fill g0 i g ∧ Row wr 26 1 v (gapsOf g0).length (u64V (gapsOf g0)) ∧ (∀ k, v.ownBlock = some k → G k) ∧ (∀ k, G k → ¬ A k ∧ k < wr.heap.size)

set_option maxRecDepth 20000 in
set_option maxHeartbeats 4000000 in
theorem holes_walk (w : World) (v0 : Value) (L : List ActL) (h0 : Acts w v0 L) :
    Calls Try.prog 7 #[v0] w fun e w' => e = .returned (.bool true) ∧ Keep (fun _ => False) w w' := by
  obtain ⟨ao0, c0, rfl, hc0, hm0⟩ := h0.form
  have H0 := hid h0
  clear h0
  obtain ⟨m, hm⟩ : ∃ m, m = L.length := ⟨_, rfl⟩
  rw [← hm] at H0 hc0 ⊢
  have Hm := hid hm
  have hmm : m ≤ maxLen := by omega
  have hm63 : (m : Int) ≤ 9223372036854775807 := by unfold maxLen at hmm; omega
  clear hm hm0 hc0
  go_enter Try.func7, Try.ntmps7
  go_wp2_with (at_builtin; refine stopAt ?_; intro q hq)
  refine (long_any w w ao0 m c0 L H0.out (Keep.refl _ _) Hm.out hmm).mono ?_
  rintro e w1 ⟨bl, rfl, hk1⟩
  have HK1 := hid hk1
  clear hk1
  cases bl with
  | true =>
    go_wp2_with (at_builtin; refine stopAt ?_; intro q hq)
    refine (known_any _).mono ?_
    rintro e w9 ⟨rfl, hk9⟩
    have HK := hid (HK1.out.next hk9 (fun _ _ x => x) (fun _ _ x => x))
    clear hk9
    go_wp2_with (at_builtin; refine stopAt ?_; intro q hq)
    go_ret
    exact ⟨by first | rfl | trivial, HK.out⟩
  | false =>
    go_wp2_with (at_builtin; refine stopAt ?_; intro q hq)
    refine (new_any w1).mono ?_
    rintro e w2 ⟨a, A, rfl, hLa, hka, hA⟩
    have HS := hid (show HRel w a w2 from ⟨A, _, One.make HK1.out hLa hka hA, fun e he => by simp at he, Nat.zero_le _⟩)
    clear hLa hka hA HK1
    go_upto_block 0 with fail
    go_cut [4] (fun s4 wx => Hid (HRel w a wx))
    case first =>
      go_wp2_with (at_builtin; refine stopAt ?_; intro q hq)
      go_loopw [4] (fun iv wr => ∃ i : Nat, i ≤ m ∧ i ≤ 100 ∧ iv = .int .i64 i ∧ Hid (HRel w a wr)) (fun iv _ => m - (intOf iv).toNat)
      case atStart => exact ⟨0, Nat.zero_le _, Nat.zero_le _, rfl, HS⟩
      case round =>
        clear HS
        obtain ⟨i, hi, hi2, rfl, HS⟩ := hrel
        by_cases h1 : i < m
        · have q1 : (i : Int) < m := by omega
          by_cases h2 : i < 100
          · have q2 : (i : Int) < 100 := by omega
            obtain ⟨A, g, hO, hsm⟩ := HS.out.ex
            obtain ⟨ad, bo, d, rfl, e0, e1, e2, hb, hkd, hsl, hvl⟩ := Acts.get H0.out hO.keep i (by rw [← Hm.out]; exact h1)
            obtain ⟨x, hx⟩ : ∃ x, x = L[i]'(by rw [← Hm.out]; exact h1) := ⟨_, rfl⟩
            rw [← hx] at e0 e1 e2 hb hkd hsl hvl
            clear hx
            obtain ⟨kd, hkd2⟩ : ∃ k, k = x.kind := ⟨_, rfl⟩
            obtain ⟨sl, hsl2⟩ : ∃ k, k = x.slot := ⟨_, rfl⟩
            rw [← hkd2] at e0 hkd
            rw [← hsl2] at e1 hsl
            obtain ⟨hkd1, hkd3⟩ := hkd
            have HX := hid (And.intro hO (And.intro hsm hb))
            obtain ⟨s, hs⟩ : ∃ s, s = sl % 60 := ⟨_, rfl⟩
            have hs60 : s < 60 := by omega
            have q3 : (sl : Int) % 60 = (s : Int) := by omega
            obtain ⟨bl, hbl⟩ : ∃ bl, bl = x.value.length := ⟨_, rfl⟩
            have Hbl := hid hbl
            have hvl2 : bl ≤ 9223372036854775807 := by unfold maxLen at hvl; omega
            rw [← hbl] at e2
            clear hO hsm hb hs hvl hbl hkd2 hsl2
            by_cases hk3 : kd ≤ 3
            · have q4 : decide (kd ≤ 3) = true := by simpa using hk3
              have f1 := fun s : Later wr => s.cell e1
              have f2 := fun s : Later wr => s.cell e2
              go_wp2_with (at_builtin; refine stopAt ?_; intro q hq)
              (refine wp_region_tail 12 (by kernel_rfl) (by kernel_rfl) ?_; simp only [List.take_succ_cons, List.take_zero, List.drop_succ_cons, List.drop_zero]; (repeat (go_big_quiet_step ((fail)))); refine wpQuiet_nil ?_; rintro _ ⟨sq, rfl⟩)
              clear f1 f2 e0 e1 e2
              go_wp2_with (at_builtin; refine stopAt ?_; intro q hq)
              obtain ⟨hO, hsm, hb⟩ := HX.out
              rw [← Hbl.out] at hb
              refine (learn_any sq.val a A g s bo bl d x.value (hO.read sq.keep).at_ (hb.keep sq.keep fun _ _ x => x) (by omega) (by omega)).mono ?_
              rintro e w3 ⟨rfl, ht3⟩
              obtain ⟨A3, hO3, -⟩ := (hO.read sq.keep).to ht3
              have HZ := hid (show HRel w a w3 from ⟨A3, _, hO3, hsm.learn s x.value (by omega)⟩)
              clear hO hsm hb ht3 hO3 HX
              go_wp2_with (at_builtin; refine stopAt ?_; intro q hq)
              exact ⟨⟨i + 1, by omega, by omega, by go_num, HZ⟩, by simp [intOf]; omega⟩
            · have q4 : decide (kd ≤ 3) = false := by simpa using hk3
              by_cases hk6 : kd ≤ 6
              · have q5 : decide (kd ≤ 6) = true := by simpa using hk6
                clear e1 e2
                go_wp2_with (at_builtin; refine stopAt ?_; intro q hq)
                obtain ⟨hO, hsm, hb⟩ := HX.out
                refine (apply_any wr a A g hO.at_).mono ?_
                rintro e w3 ⟨hap, hL3, hk3⟩
                have HZ := hid (show HRel w a w3 from ⟨A, _, hO.same hL3 hk3, hsm.apply⟩)
                obtain ⟨v, rfl⟩ := hap.ret
                clear hO hsm hb hap hL3 hk3 e0
                go_wp2_with (at_builtin; refine stopAt ?_; intro q hq)
                exact ⟨⟨i + 1, by omega, by omega, by go_num, HZ⟩, by simp [intOf]; omega⟩
              · have q5 : decide (kd ≤ 6) = false := by simpa using hk6
                clear HX e1 e2
                go_wp2_with (at_builtin; refine stopAt ?_; intro q hq)
                exact ⟨⟨i + 1, by omega, by omega, by go_num, HS⟩, by simp [intOf]; omega⟩
          · have q2 : decide ((i : Int) < 100) = false := by simp; omega
            go_wp2_with (at_builtin; refine stopAt ?_; intro q hq)
            go_meet
            exact HS
        · have q1 : decide ((i : Int) < (m : Int)) = false := by simp; omega
          go_wp2_with (at_builtin; refine stopAt ?_; intro q hq)
          go_meet
          exact HS
    case rest =>
      clear HS
      obtain ⟨A, g, hO, hsm⟩ := hcut.out.ex
      clear hcut
      have HO := hid (And.intro hO hsm)
      clear hO hsm
      go_wp2_with (at_builtin; refine stopAt ?_; intro q hq)
      refine (top_any wc a A g HO.out.1.at_).mono ?_
      rintro e w3 ⟨rfl, hk3⟩
      have HO := hid (And.intro (HO.out.1.read hk3) HO.out.2)
      clear hk3
      obtain ⟨tp, htp⟩ : ∃ tp, tp = RM.top g := ⟨_, rfl⟩
      rw [← htp]
      have Htp := hid htp
      clear htp
      go_wp2_with (at_builtin; refine stopAt ?_; intro q hq)
      refine (holes_any w3 a A g 1000 HO.out.1.at_ (by decide) (by decide)).mono ?_
      rintro e w4 ⟨v4, rfl, hr4, ho4, hk4⟩
      obtain ⟨few1, few2, few3, few4⟩ := HO.out.2.few HO.out.1.ok
      have hhs : RM.holes g 1000 = gapsOf g := by rw [holes_eq]; exact List.take_of_length_le (by show _ ≤ 1000; omega)
      rw [hhs] at hr4
      rw [← Htp.out] at few3
      have HI := hid (show HIn w a g v4 0 w4 from ⟨A, g, fun k => v4.ownBlock = some k, HO.out.1.read hk4, Fill.zero g, hr4, fun k e => e, fun k e => ⟨fun x => by have := ho4 k e; have := HO.out.1.at_.lt k x; omega, hr4.lt e⟩⟩)
      obtain ⟨ao4, c4, rfl, -⟩ := hr4.form
      obtain ⟨n, hn⟩ : ∃ n, n = (gapsOf g).length := ⟨_, rfl⟩
      rw [← hn] at HI few2 ⊢
      have Hn := hid hn
      have HR := hid (show Rising g.l from HO.out.1.ok.rising)
      have Few := hid (And.intro few1 few4)
      clear hr4 ho4 hk4 hhs hn HO few1 few4
      go_wp2_with (at_builtin; refine stopAt ?_; intro q hq)
      go_loopw [7] (fun iv wr => ∃ i : Nat, i ≤ n ∧ iv = .int .i64 i ∧ Hid (HIn w a g (.slice ao4 n c4) i wr)) (fun iv _ => n - (intOf iv).toNat)
      case atStart => exact ⟨0, Nat.zero_le _, rfl, HI⟩
      case round =>
        clear HI
        obtain ⟨i, hi, rfl, HI⟩ := hrel
        by_cases hin : i < n
        · have q1 : (i : Int) < n := by omega
          have hil : i < (gapsOf g).length := by rw [← Hn.out]; exact hin
          obtain ⟨A, gi, G, hO, hF, hr, hG, hGA⟩ := HI.out.ex
          obtain ⟨g1, g2, g3, g4⟩ := gap_get HR.out hil
          have hnx := (next_is hO.ok).unique (hF.next HR.out hil)
          have hgt : (gapsOf g)[i] < tp := by
            obtain ⟨e, he, h2⟩ := g2
            have := (top_spec HR.out).1 e he
            rw [Htp.out]; omega
          have hle := hF.learn HR.out hil (by rw [hF.len]; have := Few.out.1; omega) (by omega)
          obtain ⟨gr, cp, hv, e0⟩ := hr.getCell (show (u64V (gapsOf g))[i]? = some (.int .u64 ((gapsOf g)[i] : Nat)) by simp [u64V, List.getElem?_eq_getElem hil])
          obtain ⟨rfl, rfl⟩ : ao4 = some ⟨gr, 0, none⟩ ∧ c4 = cp := by rw [← Hn.out] at hv; simpa using hv
          obtain ⟨x, hx⟩ : ∃ x, x = (gapsOf g)[i] := ⟨_, rfl⟩
          rw [← hx] at g1 hnx hgt hle e0
          rw [← hF.ap] at g1
          have q2 : decide (x ≤ gi.ap) = false := by simpa using g1
          have q3 : decide (tp ≤ x) = false := by simpa using hgt
          have hprev : ∀ j, i = j + 1 → ∃ y, (gapsOf g)[j]? = some y ∧ decide (x ≤ y) = false := fun j hj => by
            subst hj
            refine ⟨(gapsOf g)[j]'(by omega), List.getElem?_eq_getElem _, ?_⟩
            have := g4 j (by omega)
            simp only [decide_eq_false_iff_not]
            omega
          have HAp := hid (fun s : Later wr => applied_any s.val a A gi (hO.read s.keep).at_)
          have HNx := hid (fun s : Later wr => next_any s.val a A gi (hO.read s.keep).at_)
          rw [hnx] at HNx
          have HX := hid (And.intro hO (And.intro hr (And.intro hG (And.intro hGA (And.intro hle (show x = (gapsOf g)[i] from hx))))))
          have f0 := fun s : Later wr => s.cell e0
          obtain ⟨ap, hap⟩ : ∃ ap, ap = gi.ap := ⟨_, rfl⟩
          rw [← hap] at HAp q2
          have Hprev := hid hprev
          have hrow := hid hr
          clear hO hF g1 g2 g3 g4 hnx hgt hle hv hx hG hGA hap hprev hr HI
          have q4 : x < 18446744073709551615 := by have := HX.out.2.2.2.2.2; have := Few.out.2 x (by rw [this]; exact List.getElem_mem hil); omega
          have hfin : ∀ (s : Later wr) (w3 : World), Ending.returned (.int .i64 ((RM.learn gi x []).1 : Nat)) = .returned (.int .i64 0) → LogTo a A s.val (RM.learn gi x []).2 w3 → HIn w a g (.slice (some ⟨gr, 0, none⟩) n c4) (i + 1) w3 := fun s w3 _ ht => by
            obtain ⟨hO, hr, hG, hGA, hle, hx⟩ := HX.out
            obtain ⟨A3, hO3, S3⟩ := (hO.read s.keep).to ht
            exact ⟨A3, _, G, hO3, hle.2, (hr.keep s.keep fun _ _ x => x).keep S3.keep fun k e y => (hGA k (hG k e)).1 y, hG, fun k e => ⟨fun y => (hGA k e).1 (S3.sub k (Nat.lt_of_lt_of_le (hGA k e).2 s.keep.size) y), Nat.lt_of_lt_of_le (hGA k e).2 (Nat.le_trans s.keep.size S3.keep.size)⟩⟩
          have Hfin := hid hfin
          have hle0 : (RM.learn gi x []).1 = 0 := HX.out.2.2.2.2.1.1
          have Hle0 := hid hle0
          clear hfin hle0
          rcases Nat.eq_zero_or_pos i with hi0 | hi0
          · subst hi0
            clear Hprev hrow e0
            go_wp2_with (at_builtin; refine stopAt ?_; intro q hq)
            (refine wp_region_tail 46 (by kernel_rfl) (by kernel_rfl) ?_; simp only [List.take_succ_cons, List.take_zero, List.drop_succ_cons, List.drop_zero]; (repeat (go_big_quiet_step ((first | (go_at_call 21; exact Later.call (HAp.out _)) | (go_at_call 17; exact Later.call (HNx.out _)))))); refine wpQuiet_nil ?_; rintro _ ⟨sq, rfl⟩)
            clear f0 HAp HNx
            go_wp2_with (at_builtin; refine stopAt ?_; intro q hq)
            refine (learn_any sq.val a A gi x none 0 0 [] (HX.out.1.read sq.keep).at_ (Cells.nil _ _ _) (by omega) (by decide)).mono ?_
            rintro e w3 ⟨rfl, ht3⟩
            rw [Hle0.out]
            have HZ := hid (Hfin.out sq w3 (by rw [Hle0.out]; rfl) ht3)
            clear ht3 HX
            go_wp2_with (at_builtin; refine stopAt ?_; intro q hq)
            exact ⟨⟨0 + 1, by omega, by go_num, HZ⟩, by simp [intOf]; omega⟩
          · obtain ⟨j, hj⟩ : ∃ j, i = j + 1 := ⟨i - 1, by omega⟩
            have q5 : (i : Int) - 1 = (j : Int) := by omega
            have q6 : decide ((0 : Int) < (i : Int)) = true := by simp; omega
            have q7 : (0 : Int) < (i : Int) := by omega
            obtain ⟨y, hy, hxy⟩ := Hprev.out j hj
            have q9 : (j : Int) < (n : Int) := by omega
            obtain ⟨_, _, hv, e1⟩ := hrow.out.getCell (show (u64V (gapsOf g))[j]? = some (.int .u64 (y : Nat)) by simp [u64V, hy])
            cases hv
            have f1 := fun s : Later wr => s.cell e1
            clear Hprev hrow e0 e1 hy hj
            go_wp2_with (at_builtin; refine stopAt ?_; intro q hq)
            (refine wp_region_tail 46 (by kernel_rfl) (by kernel_rfl) ?_; simp only [List.take_succ_cons, List.take_zero, List.drop_succ_cons, List.drop_zero]; (repeat (go_big_quiet_step ((first | (go_at_call 21; exact Later.call (HAp.out _)) | (go_at_call 17; exact Later.call (HNx.out _)))))); refine wpQuiet_nil ?_; rintro _ ⟨sq, rfl⟩)
            clear f0 f1 HAp HNx
            go_wp2_with (at_builtin; refine stopAt ?_; intro q hq)
            refine (learn_any sq.val a A gi x none 0 0 [] (HX.out.1.read sq.keep).at_ (Cells.nil _ _ _) (by omega) (by decide)).mono ?_
            rintro e w3 ⟨rfl, ht3⟩
            rw [Hle0.out]
            have HZ := hid (Hfin.out sq w3 (by rw [Hle0.out]; rfl) ht3)
            clear ht3 HX
            go_wp2_with (at_builtin; refine stopAt ?_; intro q hq)
            exact ⟨⟨i + 1, by omega, by go_num, HZ⟩, by simp [intOf]; omega⟩
        · have q1 : decide ((i : Int) < (n : Int)) = false := by simp; omega
          obtain rfl : i = n := by omega
          obtain ⟨A, gi, G, hO, hF, -⟩ := HI.out.ex
          rw [Hn.out] at hF
          obtain ⟨d1, d2⟩ := hF.done HR.out hO.ok.rising
          rw [← Htp.out] at d1
          have hap : gi.ap ≤ tp := by have := d1.1; omega
          obtain ⟨r1, r2⟩ := rest_next 300 hO.ok.rising d1
          have r2' : (RM.rest 300 gi).2.ap = tp := by rw [r2]; show gi.ap + _ = tp; omega
          have HD := hid (And.intro ((next_is hO.ok).unique d1) (And.intro (show RM.holes gi 1000 = [] by rw [holes_eq, d2]; rfl) r2'))
          have HO := hid hO
          clear d1 d2 r1 r2 r2' hO hF HI
          go_wp2_with (at_builtin; refine stopAt ?_; intro q hq)
          refine (holes_any wr a A gi 1000 HO.out.at_ (by decide) (by decide)).mono ?_
          rintro e w7 ⟨vh, rfl, hrh, -, hk7⟩
          rw [HD.out.2.1] at hrh
          obtain ⟨aoh, ch, rfl, -⟩ := hrh.form
          have HO := hid (HO.out.read hk7)
          clear hrh hk7
          go_wp2_with (at_builtin; refine stopAt ?_; intro q hq)
          refine (next_any w7 a A gi HO.out.at_).mono ?_
          rintro e w8 ⟨rfl, hk8⟩
          have HO := hid (HO.out.read hk8)
          rw [HD.out.1, show (((tp + 1 : Nat) : Nat) : Int) = (tp : Int) + 1 by omega]
          clear hk8
          go_wp2_with (at_builtin; refine stopAt ?_; intro q hq)
          refine (rest_any w8 a A gi HO.out.at_).mono ?_
          rintro e w9 ⟨vx, ux, rfl, hEx, hLx, hkx⟩
          have HO := hid (HO.out.same hLx hkx)
          clear hEx hLx hkx
          go_wp2_with (at_builtin; refine stopAt ?_; intro q hq)
          refine (applied_any w9 a A _ HO.out.at_).mono ?_
          rintro e w10 ⟨rfl, hk10⟩
          have HO := hid (HO.out.read hk10)
          rw [HD.out.2.2]
          clear hk10
          go_wp2_with (at_builtin; refine stopAt ?_; intro q hq)
          refine (known_any _).mono ?_
          rintro e w11 ⟨rfl, hk11⟩
          have HK := hid (HO.out.keep.next hk11 (fun _ _ x => x) (fun _ _ x => x))
          clear hk11
          go_wp2_with (at_builtin; refine stopAt ?_; intro q hq)
          go_ret
          exact ⟨by first | rfl | trivial, HK.out⟩
end Go.Proofs.Ytnignhfallhblaa
