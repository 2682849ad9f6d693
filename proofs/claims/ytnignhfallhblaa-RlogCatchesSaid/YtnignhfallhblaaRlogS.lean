/- seawalllaw12.RlogSame's walk. Conditions: as the contract names them. -/
import Derived.Test.YtnignhfallhblaaRlogA
import Derived.Test.YtnignhfallhblaaRlogT
import Derived.Test.YtnignhfallhblaaLater
import Derived.Deep.CutBlock
import Derived.Deep.DeepCutAuto
namespace Go.Proofs.Ytnignhfallhblaa
open Go.RowKit
open RM

/-- Two logs that the call made, apart. -/
structure Two (w : World) (a : Nat) (A : Nat → Prop) (ga : Lg) (b : Nat) (B : Nat → Prop) (gb : Lg) (wr : World) : Prop where
  one : LogAt wr a A ga
  two : LogAt wr b B gb
  apart : ∀ k, A k → ¬ B k
  newA : ∀ k, A k → w.heap.size ≤ k
  newB : ∀ k, B k → w.heap.size ≤ k
  keep : Keep (fun _ => False) w wr
theorem Two.swap {w wr : World} {a b : Nat} {A B : Nat → Prop} {ga gb : Lg} (h : Two w a A ga b B gb wr) : Two w b B gb a A ga wr :=
  ⟨h.two, h.one, fun k x y => h.apart k y x, h.newB, h.newA, h.keep⟩
theorem Two.to {w wr w' : World} {a b : Nat} {A B : Nat → Prop} {ga gb ga' : Lg} (h : Two w a A ga b B gb wr) (t : LogTo a A wr ga' w') : ∃ A', Two w a A' ga' b B gb w' ∧ Step A wr A' w' := by
  obtain ⟨A', h1, h2, h3⟩ := t
  refine ⟨A', ⟨h1, h.two.keep h2 fun k x y => h.apart k y x, fun k x y => ?_, fun k x => ?_, h.newB, h.keep.next h2 (fun _ _ x => x) (fun i hi x => by have := h.newA i x; omega)⟩, h2, fun k hk x => (h3 k x).elim id fun y => by omega⟩
  · rcases h3 k x with z | z
    · exact h.apart k z y
    · have := h.two.lt k y; omega
  · rcases h3 k x with z | z
    · exact h.newA k z
    · exact Nat.le_trans h.keep.size z
theorem Two.same {w wr w' : World} {a b : Nat} {A B : Nat → Prop} {ga gb ga' : Lg} (h : Two w a A ga b B gb wr) (hL : LogAt w' a A ga') (hk : Keep A wr w') : Two w a A ga' b B gb w' :=
  ⟨hL, h.two.keep hk fun k x y => h.apart k y x, h.apart, h.newA, h.newB, h.keep.next hk (fun _ _ x => x) (fun i hi x => by have := h.newA i x; omega)⟩
theorem Two.read {w wr w' : World} {a b : Nat} {A B : Nat → Prop} {ga gb : Lg} (h : Two w a A ga b B gb wr) (hk : Keep (fun _ => False) wr w') : Two w a A ga b B gb w' :=
  ⟨h.one.read hk, h.two.read hk, h.apart, h.newA, h.newB, h.keep.next hk (fun _ _ x => x) (fun _ _ x => x)⟩

structure SameRel (w : World) (a b : Nat) (vs : List (List UInt8)) (n : Nat) (wr : World) : Prop where
  ex : ∃ A B ga gb, Two w a A ga b B gb wr ∧ Tells vs n ga ∧ Tells vs n gb ∧ gb.ap = 0

set_option maxRecDepth 20000 in
set_option maxHeartbeats 4000000 in
theorem same_walk (w : World) (v0 : Value) (L : List (List UInt8)) (h0 : Shelf w v0 L) (v1 : Value) (O : List Nat) (h1 : Nums w v1 O) (v2 : Value) (T : List Nat) (h2 : Nums w v2 T) :
    Calls Try.prog 3 #[v0, v1, v2] w fun e w' => e = .returned (.bool true) ∧ Keep (fun _ => False) w w' := by
  obtain ⟨ao0, c0, rfl, hc0, hm0⟩ := h0.form
  obtain ⟨ao1, c1, rfl, hc1, hm1⟩ := h1.form
  obtain ⟨ao2, c2, rfl, hc2, hm2⟩ := h2.form
  have H0 := hid h0
  have H1 := hid h1
  have H2 := hid h2
  clear h0 h1 h2
  obtain ⟨m, hm⟩ : ∃ m, m = L.length := ⟨_, rfl⟩
  obtain ⟨mo, hmo⟩ : ∃ m, m = O.length := ⟨_, rfl⟩
  obtain ⟨mt, hmt⟩ : ∃ m, m = T.length := ⟨_, rfl⟩
  rw [← hm] at H0 hc0 ⊢
  rw [← hmo] at H1 hc1 ⊢
  rw [← hmt] at H2 hc2 ⊢
  have Hm := hid (And.intro hm (And.intro hmo hmt))
  have hmm : (m : Int) ≤ 9223372036854775807 := by unfold maxLen at hm0; omega
  clear hm hmo hmt hm0 hm1 hm2 hc0 hc1 hc2
  go_enter Try.func3, Try.ntmps3
  go_wp2_with (at_builtin; refine stopAt ?_; intro q hq)
  go_loopw [7] (fun iv wr => ∃ i : Nat, i ≤ m ∧ iv = .int .i64 i ∧ Hid (wr = w ∧ ∀ j (hj : j < L.length), j < i → L[j].length ≤ 100)) (fun iv _ => m - (intOf iv).toNat)
  case atStart => exact ⟨0, Nat.zero_le _, rfl, hid ⟨by first | rfl | trivial, fun j hj h => by omega⟩⟩
  case round =>
    obtain ⟨i, hi, rfl, HR⟩ := hrel
    have hwr := HR.out.1.symm
    subst hwr
    by_cases hlt : i < m
    · have h4 : (i : Int) < m := by omega
      obtain ⟨ad, bo, d, rfl, e0, e1, -⟩ := H0.out.get (Keep.refl _ _) i (by rw [← Hm.out.1]; exact hlt)
      obtain ⟨k, hk⟩ : ∃ k, k = (L[i]'(by rw [← Hm.out.1]; exact hlt)).length := ⟨_, rfl⟩
      rw [← hk] at e0
      have Hk := hid hk
      clear e1 hk
      by_cases h5 : 100 < k
      · have h6 : (100 : Int) < k := by omega
        go_wp2_with (at_builtin; refine stopAt ?_; intro q hq)
        refine (known_any _).mono ?_
        rintro e w9 ⟨rfl, hk9⟩
        have HK := hid hk9
        clear hk9
        go_wp2_with (at_builtin; refine stopAt ?_; intro q hq)
        go_ret
        exact ⟨by first | rfl | trivial, HK.out⟩
      · have h6 : decide ((100 : Int) < (k : Int)) = false := by simp; omega
        go_wp2_with (at_builtin; refine stopAt ?_; intro q hq)
        exact ⟨⟨i + 1, by omega, by go_num, hid ⟨by first | rfl | trivial, fun j hj h => by
          rcases Nat.lt_or_eq_of_le (Nat.le_of_lt_succ h) with x | x
          · exact HR.out.2 j hj x
          · subst x; rw [← Hk.out]; omega⟩⟩, by simp [intOf]; omega⟩
    · have t2 : decide ((i : Int) < (m : Int)) = false := by simp; omega
      obtain rfl : i = m := by omega
      have Hall := hid (show ∀ j (hj : j < L.length), L[j].length ≤ 100 from fun j hj => HR.out.2 j hj (by rw [Hm.out.1]; exact hj))
      clear HR hlt hi
      obtain ⟨n, hn⟩ : ∃ n, n = min i 40 := ⟨_, rfl⟩
      have hnm : n ≤ i := by omega
      have hn40 : n ≤ 40 := by omega
      have hmi : min (i : Int) 40 = (n : Int) := by omega
      have hmn : ∀ w : World, (Builtin.min_ #[3, 3] 3 #[.int .i64 (i : Int), .int .i64 40]).run Try.prog w = .ok (.int .i64 (n : Int)) w := fun w => by
        rcases Nat.lt_or_ge 40 i with q | q
        · have : n = 40 := by omega
          subst this
          simp [Builtin.min_, Builtin.min2]
          omega
        · have : n = i := by omega
          subst this
          simp [Builtin.min_, Builtin.min2]
          omega
      clear hn hmi
      go_wp2_with (at_builtin; refine stopAt ?_; intro q hq)
      refine (new_any w).mono ?_
      rintro e w1 ⟨a, A, rfl, hLa, hka, hA⟩
      have Ha := hid (And.intro hLa (And.intro hka hA))
      clear hLa hka hA
      go_wp2_with (at_builtin; refine stopAt ?_; intro q hq)
      refine (new_any w1).mono ?_
      rintro e w2 ⟨b, B, rfl, hLb, hkb, hB⟩
      have T2 : Two w a A ⟨0, []⟩ b B ⟨0, []⟩ w2 := by
        obtain ⟨hLa, hka, hA⟩ := Ha.out
        exact ⟨hLa.read hkb, hLb, fun k x y => by have := hLa.lt k x; have := hB k y; omega, hA, fun k x => Nat.le_trans hka.size (hB k x), hka.next hkb (fun _ _ x => x) (fun _ _ x => x)⟩
      have HT := hid T2
      clear hLb hkb hB T2 Ha
      by_cases hn0 : n = 0
      · have t3 : ((n : Int) == 0) = true := by simp [hn0]
        clear hn0
        go_wp2_with (at_builtin; refine stopAt ?_; intro q hq)
        refine (known_any _).mono ?_
        rintro e w9 ⟨rfl, hk9⟩
        have HK := hid (HT.out.keep.next hk9 (fun _ _ x => x) (fun _ _ x => x))
        clear hk9
        go_wp2_with (at_builtin; refine stopAt ?_; intro q hq)
        go_ret
        exact ⟨by first | rfl | trivial, HK.out⟩
      · have t3 : ((n : Int) == 0) = false := by simp; omega
        have hn1 : 0 < n := by omega
        have HS := hid (show SameRel w a b L n w2 from ⟨A, B, _, _, HT.out, fun e he => by simp at he, fun e he => by simp at he, rfl⟩)
        clear HT hn0
        go_upto_block 2 with fail
        go_cut [11, 12] (fun s11 s12 wx => Hid (SameRel w a b L n wx))
        case first =>
          go_wp2_with (at_builtin; refine stopAt ?_; intro q hq)
          go_loopw [11] (fun iv w' => ∃ i : Nat, i ≤ mo ∧ i ≤ 100 ∧ iv = .int .i64 i ∧ Hid (SameRel w a b L n w')) (fun iv _ => mo - (intOf iv).toNat)
          case atStart => exact ⟨0, Nat.zero_le _, Nat.zero_le _, rfl, HS⟩
          case round =>
            clear HS
            obtain ⟨j, hj, hj1, rfl, HS⟩ := hrel
            by_cases hjm : j < mo
            · have q1 : (j : Int) < mo := by omega
              by_cases hj2 : j < 100
              · have q2 : (j : Int) < 100 := by omega
                obtain ⟨A, B, ga, gb, hT, ha1, hb1, hb0⟩ := HS.out.ex
                obtain ⟨ad1, rfl, x0, x1⟩ := H1.out.get hT.keep j (by rw [← Hm.out.2.1]; exact hjm)
                obtain ⟨x, hx⟩ : ∃ x, x = O[j]'(by rw [← Hm.out.2.1]; exact hjm) := ⟨_, rfl⟩
                rw [← hx] at x0 x1
                obtain ⟨r, hr⟩ : ∃ r, r = x % n := ⟨_, rfl⟩
                have hrn : r < n := by rw [hr]; exact Nat.mod_lt _ hn1
                have q3 : (x : Int) % (n : Int) = (r : Int) := by rw [hr]; rfl
                have hrL : r < L.length := by rw [← Hm.out.1]; omega
                obtain ⟨ad0, bo, d, rfl, e0, e1, -⟩ := H0.out.get hT.keep r hrL
                have hl1 := Hall.out r hrL
                obtain ⟨hl2, hl3⟩ := learn_tells (vs := L) (n := n) (by obtain ⟨_, _, hI⟩ := hT.one; exact hI.ok) ha1 (by omega) hrn (List.getElem?_eq_getElem hrL) hl1
                have hlearn := learn_any wr a A ga (r + 1) bo L[r].length d L[r] hT.one e1 (by omega) (by omega)
                rw [hl2, show (((r + 1 : Nat) : Nat) : Int) = (r : Int) + 1 by omega] at hlearn
                obtain ⟨k, hk⟩ : ∃ k, k = L[r].length := ⟨_, rfl⟩
                rw [← hk] at e0 hlearn
                have q4 : (r : Int) < (i : Int) := by omega
                have q5 : (r : Int) + 1 ≤ 18446744073709551615 := by omega
                have HLn := hid hlearn
                have HX := hid (And.intro hT (And.intro hl3 (And.intro hb1 hb0)))
                clear hlearn e1 hr hx hl2 hl3 hT ha1 hb1 hb0 hl1 hk x1
                obtain ⟨q, hq⟩ : ∃ q, q = j % 3 := ⟨_, rfl⟩
                have q6 : (j : Int) % 3 = (q : Int) := by rw [hq]; rfl
                have q7 : (j : Int).tmod 3 = (q : Int) := by rw [Int.tmod_eq_emod_of_nonneg (by omega)]; exact q6
                clear hq
                go_wp2_with (at_builtin; refine stopAt ?_; intro q hq)
                refine HLn.out.mono ?_
                rintro e w3 ⟨rfl, ht3⟩
                obtain ⟨hT, ha1, hb1, hb0⟩ := HX.out
                obtain ⟨A3, hT3, -⟩ := hT.to ht3
                have HY := hid (And.intro hT3 (And.intro ha1 (And.intro hb1 hb0)))
                clear hT ha1 hb1 hb0 ht3 hT3 x0 e0
                by_cases hq0 : q = 0
                · have q8 : ((q : Int) == 0) = true := by simp [hq0]
                  clear hq0
                  go_wp2_with (at_builtin; refine stopAt ?_; intro q hq)
                  refine (apply_any w3 a A3 _ HY.out.1.one).mono ?_
                  rintro e w4 ⟨hap, hL4, hk4⟩
                  obtain ⟨hT3, ha1, hb1, hb0⟩ := HY.out
                  have HZ := hid (show SameRel w a b L n w4 from ⟨A3, B, _, _, hT3.same hL4 hk4, apply_tells ha1, hb1, hb0⟩)
                  have hee : ∃ v, e = .returned v := by
                    unfold Applies at hap
                    split at hap
                    · exact ⟨_, hap⟩
                    · obtain ⟨_, _, h, _⟩ := hap; exact ⟨_, h⟩
                  obtain ⟨vv, rfl⟩ := hee
                  clear hT3 ha1 hb1 hb0 hap hL4 hk4
                  go_wp2_with (at_builtin; refine stopAt ?_; intro q hq)
                  exact ⟨⟨j + 1, by omega, by omega, by go_num, HZ⟩, by simp [intOf]; omega⟩
                · have q8 : ((q : Int) == 0) = false := by simp; omega
                  clear hq0
                  have HZ := hid (show SameRel w a b L n w3 from ⟨A3, B, _, _, HY.out.1, HY.out.2⟩)
                  go_wp2_with (at_builtin; refine stopAt ?_; intro q hq)
                  exact ⟨⟨j + 1, by omega, by omega, by go_num, HZ⟩, by simp [intOf]; omega⟩
              · have q2 : decide ((j : Int) < 100) = false := by simp; omega
                go_wp2_with (at_builtin; refine stopAt ?_; intro q hq)
                go_meet
                exact HS
            · have q1 : decide ((j : Int) < (mo : Int)) = false := by simp; omega
              go_wp2_with (at_builtin; refine stopAt ?_; intro q hq)
              go_meet
              exact HS
        case rest =>
          clear HS
          have HS := hcut
          clear hcut
          go_upto_block 4 with fail
          go_cut [13, 14] (fun s13 s14 wx => Hid (SameRel w a b L n wx))
          case first =>
            go_wp2_with (at_builtin; refine stopAt ?_; intro q hq)
            go_loopw [13] (fun iv w' => ∃ i : Nat, i ≤ mt ∧ i ≤ 100 ∧ iv = .int .i64 i ∧ Hid (SameRel w a b L n w')) (fun iv _ => mt - (intOf iv).toNat)
            case atStart => exact ⟨0, Nat.zero_le _, Nat.zero_le _, rfl, HS⟩
            case round =>
              clear HS
              obtain ⟨j, hj, hj1, rfl, HS⟩ := hrel
              by_cases hjm : j < mt
              · have q1 : (j : Int) < mt := by omega
                by_cases hj2 : j < 100
                · have q2 : (j : Int) < 100 := by omega
                  obtain ⟨A, B, ga, gb, hT, ha1, hb1, hb0⟩ := HS.out.ex
                  obtain ⟨ad2, rfl, x0, x1⟩ := H2.out.get hT.keep j (by rw [← Hm.out.2.2]; exact hjm)
                  obtain ⟨x, hx⟩ : ∃ x, x = T[j]'(by rw [← Hm.out.2.2]; exact hjm) := ⟨_, rfl⟩
                  rw [← hx] at x0 x1
                  obtain ⟨r, hr⟩ : ∃ r, r = x % n := ⟨_, rfl⟩
                  have hrn : r < n := by rw [hr]; exact Nat.mod_lt _ hn1
                  have q3 : (x : Int) % (n : Int) = (r : Int) := by rw [hr]; rfl
                  have hrL : r < L.length := by rw [← Hm.out.1]; omega
                  obtain ⟨ad0, bo, d, rfl, e0, e1, -⟩ := H0.out.get hT.keep r hrL
                  have hl1 := Hall.out r hrL
                  obtain ⟨hl2, hl3⟩ := learn_tells (vs := L) (n := n) (by obtain ⟨_, _, hI⟩ := hT.two; exact hI.ok) hb1 (by omega) hrn (List.getElem?_eq_getElem hrL) hl1
                  have hlearn := learn_any wr b B gb (r + 1) bo L[r].length d L[r] hT.two e1 (by omega) (by omega)
                  rw [hl2, show (((r + 1 : Nat) : Nat) : Int) = (r : Int) + 1 by omega] at hlearn
                  obtain ⟨k, hk⟩ : ∃ k, k = L[r].length := ⟨_, rfl⟩
                  rw [← hk] at e0 hlearn
                  have q4 : (r : Int) < (i : Int) := by omega
                  have q5 : (r : Int) + 1 ≤ 18446744073709551615 := by omega
                  have HLn := hid hlearn
                  have HX := hid (And.intro hT (And.intro ha1 (And.intro hl3 hb0)))
                  clear hlearn e1 hr hx hl2 hl3 hT ha1 hb1 hb0 hl1 hk x1
                  go_wp2_with (at_builtin; refine stopAt ?_; intro q hq)
                  refine HLn.out.mono ?_
                  rintro e w3 ⟨rfl, ht3⟩
                  obtain ⟨hT, ha1, hb1, hb0⟩ := HX.out
                  obtain ⟨B3, hT3, -⟩ := hT.swap.to ht3
                  have HZ := hid (show SameRel w a b L n w3 from ⟨A, B3, _, _, hT3.swap, ha1, hb1, by rw [learn_ap]; exact hb0⟩)
                  clear hT ha1 hb1 hb0 ht3 hT3 x0 e0
                  go_wp2_with (at_builtin; refine stopAt ?_; intro q hq)
                  exact ⟨⟨j + 1, by omega, by omega, by go_num, HZ⟩, by simp [intOf]; omega⟩
                · have q2 : decide ((j : Int) < 100) = false := by simp; omega
                  go_wp2_with (at_builtin; refine stopAt ?_; intro q hq)
                  go_meet
                  exact HS
              · have q1 : decide ((j : Int) < (mt : Int)) = false := by simp; omega
                go_wp2_with (at_builtin; refine stopAt ?_; intro q hq)
                go_meet
                exact HS
          case rest =>
            clear HS
            have HS := hcut
            clear hcut
            obtain ⟨A, B, ga, gb, hT, ha1, hb1, hb0⟩ := HS.out.ex
            have HT := hid (And.intro hT (And.intro ha1 (And.intro hb1 hb0)))
            clear hT ha1 hb1 hb0 HS
            go_wp2_with (at_builtin; refine stopAt ?_; intro q hq)
            refine (rest_any wc a A ga HT.out.1.one).mono ?_
            rintro e w5 ⟨vx, ux, rfl, hEx, hLx, hkx⟩
            have HT5 := hid (HT.out.1.same hLx hkx)
            have HEx := hid hEx
            obtain ⟨aox, cx, rfl, hcx, hmx, -⟩ := hEx.row.form
            clear hEx hLx hkx
            go_wp2_with (at_builtin; refine stopAt ?_; intro q hq)
            refine (rest_any w5 b B gb HT5.out.two).mono ?_
            rintro e w6 ⟨vy, uy, rfl, hEy, hLy, hky⟩
            have HT6 := hid (HT5.out.swap.same hLy hky)
            have HEx := hid (HEx.out.keep hky fun k x y => by have := HT.out.1.two.lt k y; omega)
            have HEy := hid hEy
            obtain ⟨aoy, cy, rfl, hcy, hmy, -⟩ := hEy.row.form
            clear hEy hLy hky HT5
            obtain ⟨lx, hlx⟩ : ∃ z, z = (RM.rest 300 ga).1.length := ⟨_, rfl⟩
            obtain ⟨ly, hly⟩ : ∃ z, z = (RM.rest 300 gb).1.length := ⟨_, rfl⟩
            rw [← hlx] at HEx hcx ⊢
            rw [← hly] at HEy hcy ⊢
            have Hl := hid (And.intro hlx hly)
            have hlx2 : lx ≤ maxLen := by omega
            have hly2 : ly ≤ maxLen := by omega
            unfold maxLen at hlx2 hly2
            clear hlx hly hcx hcy hmx hmy
            go_wp2_with (at_builtin; refine stopAt ?_; intro q hq)
            go_loopw [17] (fun iv w' => ∃ i : Nat, i ≤ lx ∧ iv = .int .i64 i ∧ Hid (Keep (fun _ => False) w6 w')) (fun iv _ => lx - (intOf iv).toNat)
            case atStart => exact ⟨0, Nat.zero_le _, rfl, hid (Keep.refl _ _)⟩
            case round =>
              obtain ⟨j, hj, rfl, HK⟩ := hrel
              by_cases hjl : j < lx
              · have q1 : (j : Int) < lx := by omega
                have hjl' : j < (RM.rest 300 ga).1.length := by rw [← Hl.out.1]; exact hjl
                obtain ⟨gr, cap', ao, c, hv, e0, e1, e2⟩ := (HEx.out.keep HK.out (fun _ _ x => x)).ent j hjl'
                obtain ⟨rfl, -, rfl⟩ : aox = some ⟨gr, 0, none⟩ ∧ lx = _ ∧ cx = cap' := by simpa using hv
                obtain ⟨hm1, -⟩ := RM.rest_mem 300 ga j hjl'
                obtain ⟨t1, t2, t3⟩ := HT.out.2.1 _ hm1
                obtain ⟨y, hy⟩ : ∃ y, y = (RM.rest 300 ga).1[j] := ⟨_, rfl⟩
                rw [← hy] at e0 e1 e2 t1 t2 t3
                clear hm1 hy hv
                obtain ⟨r, hr⟩ : ∃ r, r = y.1 - 1 := ⟨_, rfl⟩
                rw [← hr] at t3
                obtain ⟨hrL, hLr⟩ := List.getElem?_eq_some_iff.1 t3
                obtain ⟨ad0, bo, d, rfl, b0, b1, -⟩ := H0.out.get (HT6.out.keep.next HK.out (fun _ _ x => x) (fun _ _ x => x)) r hrL
                have hsame := fun s : Later wr => same_any s.val ao bo y.2.length L[r].length c d y.2 L[r] (e2.keep s.keep fun _ _ x => x) (b1.keep s.keep fun _ _ x => x)
                rw [decide_eq_true hLr.symm] at hsame
                have q2 : (y.1 : Int) - 1 = (r : Int) := by omega
                have q3 : (r : Int) < (i : Int) := by have := Hm.out.1; omega
                have q4 : r < 40 := by omega
                obtain ⟨x, hx⟩ : ∃ x, x = y.1 := ⟨_, rfl⟩
                obtain ⟨k, hk⟩ : ∃ k, k = y.2.length := ⟨_, rfl⟩
                obtain ⟨k2, hk2⟩ : ∃ k, k = L[r].length := ⟨_, rfl⟩
                rw [← hx] at e0 q2
                rw [← hk] at e1 hsame
                rw [← hk2] at b0 hsame
                have Hsame := hid (fun s : Later wr => (hsame s).mono fun e w' (h : e = .returned (.bool true) ∧ s.val = w') => (⟨h.1, h.2 ▸ Keep.refl _ _⟩ : e = .returned (.bool true) ∧ Keep (fun _ => False) s.val w'))
                have f0 := fun s : Later wr => s.cell e0
                have f1 := fun s : Later wr => s.cell e1
                have g0 := fun s : Later wr => s.cell b0
                clear e0 e1 e2 t1 t2 t3 hr hLr b0 b1 hsame hx hk hk2
                go_wp2_with (at_builtin; refine stopAt ?_; intro q hq)
                (refine wp_region_later (by kernel_rfl) (by kernel_rfl) ?_; (repeat (go_big_quiet_step ((go_at_call 15; exact Later.call (Hsame.out _))))); refine wpQuiet_nil ?_; rintro _ ⟨sq, rfl⟩)
                go_wp2_with (at_builtin; refine stopAt ?_; intro q hq)
                exact ⟨⟨j + 1, by omega, by go_num, hid (HK.out.next sq.keep (fun _ _ x => x) (fun _ _ x => x))⟩, by simp [intOf]; omega⟩
              · have q1 : decide ((j : Int) < (lx : Int)) = false := by simp; omega
                have HK1 := hid HK.out
                clear HK
                go_wp2_with (at_builtin; refine stopAt ?_; intro q hq)
                clear hjl hj q1
                go_loopw [18] (fun iv w' => ∃ i : Nat, i ≤ ly ∧ iv = .int .i64 i ∧ Hid (Keep (fun _ => False) w6 w')) (fun iv _ => ly - (intOf iv).toNat)
                case atStart => exact ⟨0, Nat.zero_le _, rfl, HK1⟩
                case round =>
                  clear HK1
                  obtain ⟨j, hj, rfl, HK⟩ := hrel
                  by_cases hjl : j < ly
                  · have q1 : (j : Int) < ly := by omega
                    have hjl' : j < (RM.rest 300 gb).1.length := by rw [← Hl.out.2]; exact hjl
                    obtain ⟨gr, cap', ao, c, hv, e0, e1, e2⟩ := (HEy.out.keep HK.out (fun _ _ x => x)).ent j hjl'
                    obtain ⟨rfl, -, rfl⟩ : aoy = some ⟨gr, 0, none⟩ ∧ ly = _ ∧ cy = cap' := by simpa using hv
                    obtain ⟨hm1, hm2⟩ := RM.rest_mem 300 gb j hjl'
                    obtain ⟨t1, t2, t3⟩ := HT.out.2.2.1 _ hm1
                    rw [HT.out.2.2.2, Nat.zero_add] at hm2
                    obtain ⟨y, hy⟩ : ∃ y, y = (RM.rest 300 gb).1[j] := ⟨_, rfl⟩
                    rw [← hy] at e0 e1 e2 t1 t2 t3 hm2
                    clear hm1 hy hv
                    rw [hm2] at e0 t2 t3
                    rw [Nat.add_sub_cancel] at t3
                    obtain ⟨hrL, hLr⟩ := List.getElem?_eq_some_iff.1 t3
                    obtain ⟨ad0, bo, d, rfl, b0, b1, -⟩ := H0.out.get (HT6.out.keep.next HK.out (fun _ _ x => x) (fun _ _ x => x)) j hrL
                    have hsame := fun s : Later wr => same_any s.val ao bo y.2.length L[j].length c d y.2 L[j] (e2.keep s.keep fun _ _ x => x) (b1.keep s.keep fun _ _ x => x)
                    rw [decide_eq_true hLr.symm] at hsame
                    rw [show (((j + 1 : Nat) : Nat) : Int) = (j : Int) + 1 by omega] at e0
                    have q3 : (j : Int) < (i : Int) := by have := Hm.out.1; omega
                    have q4 : j < 40 := by omega
                    obtain ⟨k, hk⟩ : ∃ k, k = y.2.length := ⟨_, rfl⟩
                    obtain ⟨k2, hk2⟩ : ∃ k, k = L[j].length := ⟨_, rfl⟩
                    rw [← hk] at e1 hsame
                    rw [← hk2] at b0 hsame
                    have Hsame := hid (fun s : Later wr => (hsame s).mono fun e w' (h : e = .returned (.bool true) ∧ s.val = w') => (⟨h.1, h.2 ▸ Keep.refl _ _⟩ : e = .returned (.bool true) ∧ Keep (fun _ => False) s.val w'))
                    have f0 := fun s : Later wr => s.cell e0
                    have f1 := fun s : Later wr => s.cell e1
                    have g0 := fun s : Later wr => s.cell b0
                    clear e0 e1 e2 t1 t2 t3 hLr b0 b1 hsame hk hk2 hm2
                    go_wp2_with (at_builtin; refine stopAt ?_; intro q hq)
                    (refine wp_region_later (by kernel_rfl) (by kernel_rfl) ?_; (repeat (go_big_quiet_step ((go_at_call 15; exact Later.call (Hsame.out _))))); refine wpQuiet_nil ?_; rintro _ ⟨sq, rfl⟩)
                    go_wp2_with (at_builtin; refine stopAt ?_; intro q hq)
                    exact ⟨⟨j + 1, by omega, by go_num, hid (HK.out.next sq.keep (fun _ _ x => x) (fun _ _ x => x))⟩, by simp [intOf]; omega⟩
                  · have q1 : decide ((j : Int) < (ly : Int)) = false := by simp; omega
                    have HK1 := hid (HT6.out.keep.next HK.out (fun _ _ x => x) (fun _ _ x => x))
                    clear HK
                    go_wp2_with (at_builtin; refine stopAt ?_; intro q hq)
                    refine (known_any _).mono ?_
                    rintro e w9 ⟨rfl, hk9⟩
                    have HK := hid (HK1.out.next hk9 (fun _ _ x => x) (fun _ _ x => x))
                    clear hk9
                    go_wp2_with (at_builtin; refine stopAt ?_; intro q hq)
                    go_ret
                    exact ⟨by first | rfl | trivial, HK.out⟩
end Go.Proofs.Ytnignhfallhblaa
