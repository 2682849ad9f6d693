/- seawalllaw12.RlogCatches' walk. Conditions: as the contract names them. -/
import Derived.Test.YtnignhfallhblaaRlogS
import Derived.Test.YtnignhfallhblaaRlogM3
namespace Go.Proofs.Ytnignhfallhblaa
open Go.RowKit
open RM

theorem RM.catch_step {ga gb gb' : Lg} {n k : Nat} (oka : Rising ga.l) (okb : RM.Ok gb) (pa : ∀ s, 0 < s → s ≤ n → Has ga.l s) (hap : gb.ap = 0) (qb : ∀ s, 0 < s → s ≤ k → s ≤ n → Has gb.l s) {m : Int} (hm : 0 < m)
    (old : ∀ s, Has gb.l s → Has gb'.l s) (new : ∀ j (hj : j < (RM.catch_ ga (RM.next gb) m).length), Has gb'.l (RM.catch_ ga (RM.next gb) m)[j].1) : ∀ s, 0 < s → s ≤ k + 1 → s ≤ n → Has gb'.l s := by
  intro s h0 h1 h2
  obtain ⟨i1, i2, i3⟩ := next_is okb
  rw [hap] at i1 i2
  rcases Nat.lt_trichotomy s (RM.next gb) with x | x | x
  · exact old _ (i2 s h0 x)
  · have hp := catch_pos oka (pa _ h0 h2) hm
    rw [x] at hp
    have := new 0 hp
    rw [((catch_spec ga (RM.next gb) m).2 0 hp).2, Nat.add_zero] at this
    rw [x]
    exact this
  · exact absurd (qb (RM.next gb) i1 (by omega) (by omega)) i3

theorem min_any (w : World) (i c : Nat) (z : Int) (hz : z = (c : Int)) : (Builtin.min_ #[3, 3] 3 #[.int .i64 (i : Int), .int .i64 z]).run Try.prog w = .ok (.int .i64 ((min i c : Nat) : Int)) w := by
  subst hz
  rcases Nat.lt_or_ge c i with q | q
  · rw [Nat.min_eq_right (by omega)]
    simp [Builtin.min_, Builtin.min2]
    omega
  · rw [Nat.min_eq_left q]
    simp [Builtin.min_, Builtin.min2]
    omega

structure CRel (w : World) (a b : Nat) (L : List (List UInt8)) (n p q : Nat) (wr : World) : Prop where
  ex : ∃ A B ga gb, Two w a A ga b B gb wr ∧ Tells L n ga ∧ Tells L n gb ∧ ga.ap = 0 ∧ gb.ap = 0 ∧ (∀ s, 0 < s → s ≤ p → s ≤ n → Has ga.l s) ∧ (∀ s, 0 < s → s ≤ q → s ≤ n → Has gb.l s)

structure CIn (w : World) (a b : Nat) (L : List (List UInt8)) (n : Nat) (gb0 : Lg) (es : List Ent) (lv : Value) (i : Nat) (wr : World) : Prop where
  ex : ∃ A B ga gb us G, Two w a A ga b B gb wr ∧ Tells L n ga ∧ Tells L n gb ∧ ga.ap = 0 ∧ gb.ap = 0 ∧ (∀ s, 0 < s → s ≤ n → s ≤ n → Has ga.l s) ∧ (∀ s, Has gb0.l s → Has gb.l s) ∧
    (∀ j (hj : j < es.length), j < i → Has gb.l es[j].1) ∧ EntsIs wr lv es us G ∧ (∀ k, G k → ¬ B k) ∧ (∀ k, G k → k < wr.heap.size) ∧ (∀ j (hj : j < es.length), es[j] ∈ ga.l) ∧ ∃ m : Int, 0 < m ∧ es = RM.catch_ ga (RM.next gb0) m

set_option maxRecDepth 20000 in
set_option maxHeartbeats 4000000 in
theorem catches_walk (w : World) (v0 : Value) (L : List (List UInt8)) (h0 : Shelf w v0 L) (v1 : Value) (O : List Nat) (h1 : Nums w v1 O) (most : Int) (_hq1 : -9223372036854775808 ≤ most) (_hq2 : most ≤ 9223372036854775807) :
    Calls Try.prog 4 #[v0, v1, .int .i64 most] w fun e w' => e = .returned (.bool true) ∧ Keep (fun _ => False) w w' := by
  obtain ⟨ao0, c0, rfl, hc0, hm0⟩ := h0.form
  obtain ⟨ao1, c1, rfl, hc1, hm1⟩ := h1.form
  have H0 := hid h0
  have H1 := hid h1
  clear h0 h1
  obtain ⟨m, hm⟩ : ∃ m, m = L.length := ⟨_, rfl⟩
  obtain ⟨mo, hmo⟩ : ∃ m, m = O.length := ⟨_, rfl⟩
  rw [← hm] at H0 hc0 ⊢
  rw [← hmo] at H1 hc1 ⊢
  have Hm := hid (And.intro hm hmo)
  have hmm : (m : Int) ≤ 9223372036854775807 := by unfold maxLen at hm0; omega
  have hmo1 : (mo : Int) ≤ 9223372036854775807 := by unfold maxLen at hm1; omega
  clear hm hmo hm0 hm1 hc0 hc1
  obtain ⟨pc, hpc, hpc9⟩ : ∃ pc : Nat, (IntKind.u64.wrap most).tmod 9 = (pc : Int) ∧ pc < 9 := by
    refine ⟨((IntKind.u64.wrap most) % 9).toNat, ?_, ?_⟩
    · have : 0 ≤ IntKind.u64.wrap most := by simp [IntKind.wrap, IntKind.signed, IntKind.bits]; omega
      rw [Int.tmod_eq_emod_of_nonneg this]; omega
    · omega
  have hpc2 : (IntKind.u64.wrap most) % 9 = (pc : Int) := by
    have : 0 ≤ IntKind.u64.wrap most := by simp [IntKind.wrap, IntKind.signed, IntKind.bits]; omega
    rw [← hpc, Int.tmod_eq_emod_of_nonneg this]
  have HPC := hid (And.intro hpc hpc2)
  clear hpc hpc2
  go_enter Try.func4, Try.ntmps4
  go_wp2_with (at_builtin; refine stopAt ?_; intro q hq)
  go_loopw [7] (fun iv wr => ∃ i : Nat, i ≤ m ∧ iv = .int .i64 i ∧ Hid (wr = w ∧ ∀ j (hj : j < L.length), j < i → L[j].length ≤ 100)) (fun iv _ => m - (intOf iv).toNat)
  case atStart => exact ⟨0, Nat.zero_le _, rfl, hid ⟨by first | rfl | trivial, fun j hj h => by omega⟩⟩
  case round =>
    obtain ⟨i, hi, rfl, HR⟩ := hrel
    have hwr := HR.out.1.symm
    subst hwr
    by_cases hlt : i < m
    · have h4 : (i : Int) < m := by omega
      obtain ⟨ad, bo, d, rfl, e0, e1, -⟩ := H0.out.get (Keep.refl _ _) i (by rw [← Hm.out.1]; exact hlt)
      obtain ⟨k, hk⟩ : ∃ k, k = (L[i]'(by rw [← Hm.out.1]; exact hlt)).length := ⟨_, rfl⟩
      rw [← hk] at e0
      have Hk := hid hk
      clear e1 hk
      by_cases h5 : 100 < k
      · have h6 : (100 : Int) < k := by omega
        go_wp2_with (at_builtin; refine stopAt ?_; intro q hq)
        refine (known_any _).mono ?_
        rintro e w9 ⟨rfl, hk9⟩
        have HK := hid hk9
        clear hk9
        go_wp2_with (at_builtin; refine stopAt ?_; intro q hq)
        go_ret
        exact ⟨by first | rfl | trivial, HK.out⟩
      · have h6 : decide ((100 : Int) < (k : Int)) = false := by simp; omega
        go_wp2_with (at_builtin; refine stopAt ?_; intro q hq)
        exact ⟨⟨i + 1, by omega, by go_num, hid ⟨by first | rfl | trivial, fun j hj h => by
          rcases Nat.lt_or_eq_of_le (Nat.le_of_lt_succ h) with x | x
          · exact HR.out.2 j hj x
          · subst x; rw [← Hk.out]; omega⟩⟩, by simp [intOf]; omega⟩
    · have t2 : decide ((i : Int) < (m : Int)) = false := by simp; omega
      obtain rfl : i = m := by omega
      have Hall := hid (show ∀ j (hj : j < L.length), L[j].length ≤ 100 from fun j hj => HR.out.2 j hj (by rw [Hm.out.1]; exact hj))
      clear HR hlt hi
      have hmn := fun w : World => min_any w i 60 60 rfl
      obtain ⟨n, hn⟩ : ∃ n, n = min i 60 := ⟨_, rfl⟩
      rw [← hn] at hmn
      have hnm : n ≤ i := by omega
      have hn40 : n ≤ 60 := by omega
      clear hn
      go_wp2_with (at_builtin; refine stopAt ?_; intro q hq)
      clear hmn
      refine (new_any w).mono ?_
      rintro e w1 ⟨a, A, rfl, hLa, hka, hA⟩
      have Ha := hid (And.intro hLa (And.intro hka hA))
      clear hLa hka hA
      go_wp2_with (at_builtin; refine stopAt ?_; intro q hq)
      refine (new_any w1).mono ?_
      rintro e w2 ⟨b, B, rfl, hLb, hkb, hB⟩
      have T2 : Two w a A ⟨0, []⟩ b B ⟨0, []⟩ w2 := by
        obtain ⟨hLa, hka, hA⟩ := Ha.out
        exact ⟨hLa.read hkb, hLb, fun k x y => by have := hLa.lt k x; have := hB k y; omega, hA, fun k x => Nat.le_trans hka.size (hB k x), hka.next hkb (fun _ _ x => x) (fun _ _ x => x)⟩
      have HS := hid (show CRel w a b L n 0 0 w2 from ⟨A, B, _, _, T2, fun e he => by simp at he, fun e he => by simp at he, rfl, rfl, fun s h1 h2 => by omega, fun s h1 h2 => by omega⟩)
      clear hLb hkb hB T2 Ha
      go_wp2_with (at_builtin; refine stopAt ?_; intro q hq)
      go_loopw [11] (fun iv w' => ∃ i : Nat, i ≤ n ∧ iv = .int .i64 i ∧ Hid (CRel w a b L n i 0 w')) (fun iv _ => n - (intOf iv).toNat)
      case atStart => exact ⟨0, Nat.zero_le _, rfl, HS⟩
      case round =>
        clear HS
        obtain ⟨j, hj, rfl, HS⟩ := hrel
        by_cases hjm : j < n
        · have q1 : (j : Int) < n := by omega
          obtain ⟨A, B, ga, gb, hT, ha1, hb1, ha0, hb0, hp, hq⟩ := HS.out.ex
          have hrL : j < L.length := by rw [← Hm.out.1]; omega
          obtain ⟨ad0, bo, d, rfl, e0, e1, -⟩ := H0.out.get hT.keep j hrL
          have hl1 := Hall.out j hrL
          obtain ⟨hl2, hl3⟩ := learn_tells (vs := L) (n := n) (by obtain ⟨_, _, hI⟩ := hT.one; exact hI.ok) ha1 (by omega) hjm (List.getElem?_eq_getElem hrL) hl1
          have hlearn := learn_any wr a A ga (j + 1) bo L[j].length d L[j] hT.one e1 (by omega) (by omega)
          have hl4 := learn_ok hl2 (by omega)
          rw [hl2, show (((j + 1 : Nat) : Nat) : Int) = (j : Int) + 1 by omega] at hlearn
          have hl5 : ∀ s, 0 < s → s ≤ j + 1 → s ≤ n → Has (RM.learn ga (j + 1) L[j]).2.l s := fun s x y z => by
            rcases Nat.lt_or_eq_of_le y with y | y
            · exact learn_has _ _ _ (hp s x (by omega) z)
            · subst y; exact hl4
          have ha2 := (learn_ap ga (j + 1) L[j]).trans ha0
          obtain ⟨k, hk⟩ : ∃ k, k = L[j].length := ⟨_, rfl⟩
          rw [← hk] at e0 hlearn
          have q4 : (j : Int) < (i : Int) := by omega
          have q5 : (j : Int) + 1 ≤ 18446744073709551615 := by omega
          have HLn := hid hlearn
          have HX := hid (And.intro hT (And.intro hl3 (And.intro hb1 (And.intro ha2 (And.intro hb0 (And.intro hl5 hq))))))
          clear hlearn e1 hl2 hl3 hT ha1 hb1 ha0 hb0 hl1 hk hp hq hl4 hl5 ha2
          go_wp2_with (at_builtin; refine stopAt ?_; intro q hq)
          refine HLn.out.mono ?_
          rintro e w3 ⟨rfl, ht3⟩
          obtain ⟨hT, hX⟩ := HX.out
          obtain ⟨A3, hT3, -⟩ := hT.to ht3
          have HZ := hid (show CRel w a b L n (j + 1) 0 w3 from ⟨A3, B, _, _, hT3, hX⟩)
          clear hT ht3 hT3 hX e0
          go_wp2_with (at_builtin; refine stopAt ?_; intro q hq)
          exact ⟨⟨j + 1, by omega, by go_num, HZ⟩, by simp [intOf]; omega⟩
        · have q1 : decide ((j : Int) < (n : Int)) = false := by simp; omega
          obtain rfl : j = n := by omega
          clear hj
          have HS1 := hid HS.out
          clear HS
          go_upto_block 4 with fail
          clear q1 hjm
          go_cut [12, 13] (fun s12 s13 wx => Hid (CRel w a b L j j 0 wx))
          case first =>
            go_wp2_with (at_builtin; refine stopAt ?_; intro q hq)
            go_loopw [12, 13] (fun iv sv w' => ∃ i : Nat, i ≤ mo ∧ iv = .int .i64 i ∧ Hid (CRel w a b L j j 0 w')) (fun iv _ _ => mo - (intOf iv).toNat)
            case atStart => exact ⟨0, Nat.zero_le _, rfl, HS1⟩
            case round =>
              clear HS1
              obtain ⟨r, hr, rfl, HS⟩ := hrel
              by_cases hrm : r < mo
              · have q1 : (r : Int) < mo := by omega
                by_cases hn0 : 0 < j
                · have q2 : (0 : Int) < j := by omega
                  obtain ⟨A, B, ga, gb, hT, ha1, hb1, ha0, hb0, hp, hq⟩ := HS.out.ex
                  obtain ⟨ad1, rfl, x0, x1⟩ := H1.out.get hT.keep r (by rw [← Hm.out.2]; exact hrm)
                  obtain ⟨x, hx⟩ : ∃ x, x = O[r]'(by rw [← Hm.out.2]; exact hrm) := ⟨_, rfl⟩
                  rw [← hx] at x0 x1
                  obtain ⟨s, hs⟩ : ∃ s, s = x % j := ⟨_, rfl⟩
                  have hsn : s < j := by rw [hs]; exact Nat.mod_lt _ hn0
                  have q3 : (x : Int) % (j : Int) = (s : Int) := by rw [hs]; rfl
                  have hrL : s < L.length := by rw [← Hm.out.1]; omega
                  obtain ⟨ad0, bo, d, rfl, e0, e1, -⟩ := H0.out.get hT.keep s hrL
                  have hl1 := Hall.out s hrL
                  obtain ⟨hl2, hl3⟩ := learn_tells (vs := L) (n := j) (by obtain ⟨_, _, hI⟩ := hT.two; exact hI.ok) hb1 (by omega) hsn (List.getElem?_eq_getElem hrL) hl1
                  have hlearn := learn_any wr b B gb (s + 1) bo L[s].length d L[s] hT.two e1 (by omega) (by omega)
                  rw [hl2, show (((s + 1 : Nat) : Nat) : Int) = (s : Int) + 1 by omega] at hlearn
                  have hb2 := (learn_ap gb (s + 1) L[s]).trans hb0
                  obtain ⟨k, hk⟩ : ∃ k, k = L[s].length := ⟨_, rfl⟩
                  rw [← hk] at e0 hlearn
                  have q4 : (s : Int) < (i : Int) := by omega
                  have q5 : (s : Int) + 1 ≤ 18446744073709551615 := by omega
                  have HLn := hid hlearn
                  have HX := hid (And.intro hT (And.intro ha1 (And.intro hl3 (And.intro ha0 (And.intro hb2 hp)))))
                  clear hlearn e1 hs hx hl2 hl3 hT ha1 hb1 ha0 hb0 hb2 hp hq hl1 hk x1
                  go_wp2_with (at_builtin; refine stopAt ?_; intro q hq)
                  refine HLn.out.mono ?_
                  rintro e w3 ⟨rfl, ht3⟩
                  obtain ⟨hT, ha1, hb1, ha0, hb0, hp⟩ := HX.out
                  obtain ⟨B3, hT3, -⟩ := hT.swap.to ht3
                  have HZ := hid (show CRel w a b L j j 0 w3 from ⟨A, B3, _, _, hT3.swap, ha1, hb1, ha0, hb0, hp, fun s h1 h2 => by omega⟩)
                  clear hT ht3 hT3 ha1 hb1 ha0 hb0 hp e0 x0
                  go_wp2_with (at_builtin; refine stopAt ?_; intro q hq)
                  exact ⟨⟨r + 1, by omega, by go_num, HZ⟩, by simp [intOf]; omega⟩
                · obtain rfl : j = 0 := by omega
                  go_wp2_with (at_builtin; refine stopAt ?_; intro q hq)
                  go_meet
                  exact HS
              · have q1 : decide ((r : Int) < (mo : Int)) = false := by simp; omega
                go_wp2_with (at_builtin; refine stopAt ?_; intro q hq)
                go_meet
                exact HS
          case rest =>
            clear HS1
            have HS := hcut
            clear hcut
            have hpc := HPC.out.1
            have hpc2 := HPC.out.2
            go_wp2_with (at_builtin; refine stopAt ?_; intro q hq)
            clear hpc hpc2
            go_loopw [15, 16, 17] (fun kv lv iv w' => ∃ k : Nat, k ≤ j + 1 ∧ kv = .int .i64 k ∧ Hid (CRel w a b L j j k w')) (fun kv _ _ _ => j + 1 - (intOf kv).toNat)
            case atStart => exact ⟨0, Nat.zero_le _, rfl, HS⟩
            case round =>
              clear HS
              obtain ⟨k, hk, rfl, HS⟩ := hrel
              by_cases hkj : k ≤ j
              · have q1 : (k : Int) ≤ j := by omega
                have q2 : (k : Int) + 1 ≤ 61 := by omega
                obtain ⟨A, B, ga, gb, hT, ha1, hb1, ha0, hb0, hp, hq⟩ := HS.out.ex
                have HT := hid (And.intro hT (And.intro ha1 (And.intro hb1 (And.intro ha0 (And.intro hb0 (And.intro hp hq))))))
                clear hT ha1 hb1 ha0 hb0 hp hq HS
                go_wp2_with (at_builtin; refine stopAt ?_; intro q hq)
                refine (next_any wr b B gb HT.out.1.two).mono ?_
                rintro e w3 ⟨rfl, hk3⟩
                have HK3 := hid hk3
                clear hk3
                go_wp2_with (at_builtin; refine stopAt ?_; intro q hq)
                refine (catch_any w3 a A ga (RM.next gb) (1 + (pc : Int)) (HT.out.1.one.read HK3.out) (by omega) (by omega) (by
                  have hok : RM.Ok gb := by obtain ⟨_, _, hI⟩ := HT.out.1.two; exact hI.ok
                  exact run_lt (fun e he => (hok.slots e (List.mem_of_mem_drop he)).2) (by have := hok.ap; omega))).mono ?_
                rintro e w4 ⟨lv, us, rfl, hE, hk4⟩
                obtain ⟨es, hes⟩ : ∃ es, es = RM.catch_ ga (RM.next gb) (1 + (pc : Int)) := ⟨_, rfl⟩
                have hel : es.length ≤ 1 + pc := by rw [hes]; have := (catch_spec ga (RM.next gb) (1 + (pc : Int))).1; omega
                have hem : ∀ j (hj : j < es.length), es[j] ∈ ga.l := by rw [hes]; exact fun j hj => ((catch_spec ga (RM.next gb) (1 + (pc : Int))).2 j hj).1
                rw [← hes] at hE
                have HI := hid (show CIn w a b L j gb es lv 0 w4 from by
                  obtain ⟨hT, ha1, hb1, ha0, hb0, hp, hq⟩ := HT.out
                  have hk34 := HK3.out.next hk4 (fun _ _ x => x) (fun _ _ x => x)
                  exact ⟨A, B, ga, gb, us, fun k => w3.heap.size ≤ k ∧ k < w4.heap.size, hT.read hk34, ha1, hb1, ha0, hb0, hp, fun s h => h, fun j hj h => by omega,
                    hE.mono (fun k h1 h2 => ⟨h2, h1⟩), fun k h1 h2 => by have := (hT.two.read HK3.out).lt k h2; omega, fun k h => h.2, hem, 1 + (pc : Int), by omega, hes⟩)
                have HQ := hid (And.intro (show ∀ s, Has gb.l s → s ≤ j from fun s ⟨v, h⟩ => (HT.out.2.2.1 _ h).2.1) HT.out.2.2.2.2.2.2)
                have Hok := hid (And.intro (show RM.Ok gb by obtain ⟨_, _, hI⟩ := HT.out.1.two; exact hI.ok) HT.out.2.2.2.2.1)
                obtain ⟨aol, cl, rfl, -⟩ := hE.row.form
                obtain ⟨le, hle⟩ : ∃ le, le = es.length := ⟨_, rfl⟩
                rw [← hle] at hel HI ⊢
                have Hle := hid hle
                have q3 : decide ((1 : Int) + (pc : Int) < (le : Int)) = false := by simp; omega
                have q4 : (le : Int) ≤ 10 := by omega
                clear hE hk4 hes hem hle HT HK3
                go_wp2_with (at_builtin; refine stopAt ?_; intro q hq)
                clear q3
                go_loopw [17] (fun iv w' => ∃ r : Nat, r ≤ le ∧ iv = .int .i64 r ∧ Hid (CIn w a b L j gb es (.slice aol le cl) r w')) (fun iv _ => le - (intOf iv).toNat)
                case atStart => exact ⟨0, Nat.zero_le _, rfl, HI⟩
                case round =>
                  clear HI
                  obtain ⟨r, hr, rfl, HI⟩ := hrel
                  by_cases hrl : r < le
                  · have q5 : (r : Int) < le := by omega
                    have hrl' : r < es.length := by rw [← Hle.out]; exact hrl
                    obtain ⟨A, B, ga, gc, us, G, hT, ha1, hb1, ha0, hb0, hp, hold, hnew, hE, hGB, hGs, hem, hm⟩ := HI.out.ex
                    obtain ⟨gr, cap', ao, c, hv, e0, e1, e2⟩ := hE.ent r hrl'
                    obtain ⟨rfl, -, rfl⟩ : aol = some ⟨gr, 0, none⟩ ∧ le = _ ∧ cl = cap' := by simpa using hv
                    obtain ⟨t1, t2, t3⟩ := ha1 _ (hem r hrl')
                    obtain ⟨y, hy⟩ : ∃ y, y = es[r] := ⟨_, rfl⟩
                    have Hy := hid hy
                    rw [← hy] at e0 e1 e2 t1 t2 t3
                    clear hv hy
                    obtain ⟨s, hs⟩ : ∃ s, y.1 = s + 1 := ⟨y.1 - 1, by omega⟩
                    rw [hs] at e0 t2 t3
                    rw [Nat.add_sub_cancel] at t3
                    obtain ⟨hsL, hLs⟩ := List.getElem?_eq_some_iff.1 t3
                    have hl1 : y.2.length ≤ 100 := by rw [← hLs]; exact Hall.out s hsL
                    obtain ⟨hl2, hl3⟩ := learn_tells (vs := L) (n := j) (by obtain ⟨_, _, hI⟩ := hT.two; exact hI.ok) hb1 (by omega) (show s < j by omega) t3 hl1
                    have hdr : Keep (fun _ => False) wr wr.drew := (Keep.refl _ _).drew
                    have hlearn := learn_any wr.drew b B gc (s + 1) ao y.2.length c y.2 (hT.two.read hdr) (e2.keep hdr fun _ _ x => x) (by omega) (by omega)
                    have hb2 := (learn_ap gc (s + 1) y.2).trans hb0
                    have hl4 := learn_ok hl2 (by omega)
                    rw [hl2] at hlearn
                    obtain ⟨k2, hk2⟩ : ∃ k, k = y.2.length := ⟨_, rfl⟩
                    rw [← hk2] at e1 hlearn
                    have hold2 : ∀ t, Has gb.l t → Has (RM.learn gc (s + 1) y.2).2.l t := fun t h => learn_has _ _ _ (hold t h)
                    have hnew2 : ∀ i (hi : i < es.length), i < r + 1 → Has (RM.learn gc (s + 1) y.2).2.l es[i].1 := fun i hi h => by
                      rcases Nat.lt_or_eq_of_le (Nat.le_of_lt_succ h) with x | x
                      · exact learn_has _ _ _ (hnew i hi x)
                      · subst x; rw [← Hy.out, hs]; exact hl4
                    have HLn := hid hlearn
                    have HX := hid (And.intro (hT.read hdr) (And.intro ha1 (And.intro hl3 (And.intro ha0 (And.intro hb2 (And.intro hp (And.intro hold2 (And.intro hnew2 (And.intro (hE.keep hdr fun _ _ x => x) (And.intro hGB (And.intro hGs (And.intro hem hm))))))))))))
                    clear hlearn e2 hl2 hl3 hT ha1 hb1 ha0 hb0 hb2 hp hl1 hk2 hold hold2 hnew hnew2 hE hGB hGs hem hm hl4 hsL hLs t1 t2 t3 hdr hs
                    go_wp2_with (at_builtin; refine stopAt ?_; intro q hq)
                    refine wp_region_canon [] (by kernel_rfl) (by kernel_rfl) ?_
                    repeat (first | (apply wpC_pure (by rfl); (intro K w'; go_simp; exact id)) | (apply wpC_load (by rfl); (intro K; go_simp; exact id)))
                    refine wpC_act (by rfl) (by rfl) (fun K hK => ?_)
                    go_simp
                    refine HLn.out.mono ?_
                    rintro e w5 ⟨rfl, ht5⟩
                    obtain ⟨hT, ha1, hl3, ha0, hb2, hp, hold2, hnew2, hE, hGB, hGs, hem, hm⟩ := HX.out
                    obtain ⟨B5, hT5, S5⟩ := hT.swap.to ht5
                    have HZ := hid (show CIn w a b L j gb es (.slice (some ⟨gr, 0, none⟩) le cl) (r + 1) w5 from
                      ⟨A, B5, ga, _, us, G, hT5.swap, ha1, hl3, ha0, hb2, hp, hold2, hnew2, hE.keep S5.keep hGB, fun k h1 h2 => hGB k h1 (S5.sub k (hGs k h1) h2), fun k h => Nat.lt_of_lt_of_le (hGs k h) S5.keep.size, hem, hm⟩)
                    clear hT ha1 hl3 ha0 hb2 hp hold2 hnew2 hE hGB hGs hem hm ht5 hT5 S5 e0 e1
                    refine hK _ _ ?_
                    clear hK K
                    repeat (apply wpC_pure (by rfl); (intro K w'; go_simp; exact id))
                    refine wpC_nil ?_
                    go_wp2_with (at_builtin; refine stopAt ?_; intro q hq)
                    go_roundw
                    case rel => exact ⟨r + 1, by omega, by go_num, HZ⟩
                    case measure => simp [intOf]; omega
                  · have q5 : decide ((r : Int) < (le : Int)) = false := by simp; omega
                    obtain rfl : r = le := by omega
                    have HZ := hid (show CRel w a b L j j (k + 1) wr from by
                      obtain ⟨A, B, ga, gc, us, G, hT, ha1, hb1, ha0, hb0, hp, hold, hnew, hE, hGB, hGs, hem, m, hm, hes⟩ := HI.out.ex
                      have oka : RM.Ok ga := by obtain ⟨_, _, hI⟩ := hT.one; exact hI.ok
                      subst hes
                      exact ⟨A, B, ga, gc, hT, ha1, hb1, ha0, hb0, hp, RM.catch_step oka.rising Hok.out.1 (fun s x y => hp s x y y) Hok.out.2 HQ.out.2 hm hold (fun i hi => hnew i hi (by rw [Hle.out]; exact hi))⟩)
                    clear HI HQ Hok hr
                    go_wp2_with (at_builtin; refine stopAt ?_; intro q hq)
                    go_roundw
                    case rel => exact ⟨k + 1, by omega, by go_num, HZ⟩
                    case measure => simp [intOf]; omega
              · have q1 : decide ((k : Int) ≤ (j : Int)) = false := by simp; omega
                obtain rfl : k = j + 1 := by omega
                obtain ⟨A, B, ga, gb, hT, ha1, hb1, ha0, hb0, hp, hq⟩ := HS.out.ex
                have hok : RM.Ok gb := by obtain ⟨_, _, hI⟩ := hT.two; exact hI.ok
                have hnx : IsNext gb (j + 1) := ⟨by omega, fun s h1 h2 => hq s (by omega) (by omega) (by omega), fun ⟨v, h⟩ => by have := (hb1 _ h).2.1; simp only at this; omega⟩
                obtain ⟨r1, r2⟩ := rest_next 300 hok.rising hnx
                have r1' : (RM.rest 300 gb).1.length = j := by rw [r1, hb0]; omega
                have r2' : (RM.rest 300 gb).2 = { gb with ap := j } := by
                  rw [r2, hb0]
                  have : 0 + min 300 (j + 1 - 0 - 1) = j := by omega
                  rw [this]
                have r3 : RM.next { gb with ap := j } = j + 1 := (next_is (g := { gb with ap := j }) ⟨hok.rising, hok.slots, hok.vals, hok.few, by show j < _; omega⟩).unique (hnx.ahead (by omega) (by omega))
                have r4 : RM.holes { gb with ap := j } 9 = [] := by
                  rw [holes_eq, show gapsOf { gb with ap := j } = [] from List.eq_nil_iff_forall_not_mem.2 fun t ht => by
                    obtain ⟨x1, ⟨e, he, x2⟩, -⟩ := (gapsOf_mem (g := { gb with ap := j }) hok.rising t).1 ht
                    have := (hb1 e he).2.1
                    simp only at x1
                    omega]
                  rfl
                have hmm := RM.rest_mem 300 gb
                have HT := hid hT
                have HX := hid (And.intro hb1 (And.intro hb0 hmm))
                have HR := hid (And.intro r1' (And.intro r2' (And.intro r3 r4)))
                clear hT ha1 hb1 ha0 hb0 hp hq hok hnx r1 r2 r1' r2' r3 r4 hmm HS hkj hk
                go_wp2_with (at_builtin; refine stopAt ?_; intro q hq)
                refine (rest_any wr b B gb HT.out.two).mono ?_
                rintro e w5 ⟨vx, ux, rfl, hEx, hLx, hkx⟩
                have hT5 := HT.out.swap.same hLx hkx
                rw [HR.out.2.1] at hT5
                obtain ⟨aox, cx, rfl, -⟩ := hEx.row.form
                rw [HR.out.1]
                have HE := hid hEx
                rw [HR.out.1] at HE
                have HT5 := hid hT5
                clear hEx hLx hkx hT5
                go_wp2_with (at_builtin; refine stopAt ?_; intro q hq)
                refine (next_any w5 b B _ HT5.out.one).mono ?_
                rintro e w6 ⟨rfl, hk6⟩
                have HT6 := hid (HT5.out.read hk6)
                have HE := hid (HE.out.keep hk6 fun _ _ x => x)
                rw [HR.out.2.2.1, show (((j + 1 : Nat) : Nat) : Int) = (j : Int) + 1 by omega]
                clear hk6
                go_wp2_with (at_builtin; refine stopAt ?_; intro q hq)
                refine (holes_any w6 b B _ 9 HT6.out.one (by decide) (by decide)).mono ?_
                rintro e w7 ⟨vh, rfl, hrh, -, hk7⟩
                rw [HR.out.2.2.2] at hrh
                obtain ⟨aoh, ch, rfl, -⟩ := hrh.form
                have HT7 := hid (HT6.out.read hk7)
                have HE := hid (HE.out.keep hk7 fun _ _ x => x)
                clear hrh hk7
                go_wp2_with (at_builtin; refine stopAt ?_; intro q hq)
                go_loopw [19] (fun iv w' => ∃ i : Nat, i ≤ j ∧ iv = .int .i64 i ∧ Hid (Keep (fun _ => False) w7 w')) (fun iv _ => j - (intOf iv).toNat)
                case atStart => exact ⟨0, Nat.zero_le _, rfl, hid (Keep.refl _ _)⟩
                case round =>
                  obtain ⟨r, hr, rfl, HK⟩ := hrel
                  by_cases hrl : r < j
                  · have q1 : (r : Int) < j := by omega
                    have hrl' : r < (RM.rest 300 gb).1.length := by rw [HR.out.1]; exact hrl
                    obtain ⟨gr, cap', ao, c, hv, e0, e1, e2⟩ := (HE.out.keep HK.out (fun _ _ x => x)).ent r hrl'
                    obtain ⟨rfl, -, rfl⟩ : aox = some ⟨gr, 0, none⟩ ∧ j = _ ∧ cx = cap' := by simpa using hv
                    obtain ⟨hm1, hm2⟩ := HX.out.2.2 r hrl'
                    obtain ⟨t1, t2, t3⟩ := HX.out.1 _ hm1
                    rw [HX.out.2.1, Nat.zero_add] at hm2
                    obtain ⟨y, hy⟩ : ∃ y, y = (RM.rest 300 gb).1[r] := ⟨_, rfl⟩
                    rw [← hy] at e0 e1 e2 t1 t2 t3 hm2
                    clear hm1 hy hv e0
                    rw [hm2, Nat.add_sub_cancel] at t3
                    obtain ⟨hrL, hLr⟩ := List.getElem?_eq_some_iff.1 t3
                    obtain ⟨ad0, bo, d, rfl, b0, b1, -⟩ := H0.out.get (HT7.out.keep.next HK.out (fun _ _ x => x) (fun _ _ x => x)) r hrL
                    have hsame := fun s : Later wr => same_any s.val ao bo y.2.length L[r].length c d y.2 L[r] (e2.keep s.keep fun _ _ x => x) (b1.keep s.keep fun _ _ x => x)
                    rw [decide_eq_true hLr.symm] at hsame
                    have q3 : (r : Int) < (i : Int) := by have := Hm.out.1; omega
                    obtain ⟨k, hk⟩ : ∃ k, k = y.2.length := ⟨_, rfl⟩
                    obtain ⟨k2, hk2⟩ : ∃ k, k = L[r].length := ⟨_, rfl⟩
                    rw [← hk] at e1 hsame
                    rw [← hk2] at b0 hsame
                    have Hsame := hid (fun s : Later wr => (hsame s).mono fun e w' (h : e = .returned (.bool true) ∧ s.val = w') => (⟨h.1, h.2 ▸ Keep.refl _ _⟩ : e = .returned (.bool true) ∧ Keep (fun _ => False) s.val w'))
                    have f1 := fun s : Later wr => s.cell e1
                    have g0 := fun s : Later wr => s.cell b0
                    clear e1 e2 t1 t2 t3 hLr b0 b1 hsame hk hk2 hm2
                    go_wp2_with (at_builtin; refine stopAt ?_; intro q hq)
                    (refine wp_region_later (by kernel_rfl) (by kernel_rfl) ?_; (repeat (go_big_quiet_step ((go_at_call 15; exact Later.call (Hsame.out _))))); refine wpQuiet_nil ?_; rintro _ ⟨sq, rfl⟩)
                    go_wp2_with (at_builtin; refine stopAt ?_; intro q hq)
                    exact ⟨⟨r + 1, by omega, by go_num, hid (HK.out.next sq.keep (fun _ _ x => x) (fun _ _ x => x))⟩, by simp [intOf]; omega⟩
                  · have q1 : decide ((r : Int) < (j : Int)) = false := by simp; omega
                    have HK1 := hid (HT7.out.keep.next HK.out (fun _ _ x => x) (fun _ _ x => x))
                    clear HK
                    go_wp2_with (at_builtin; refine stopAt ?_; intro q hq)
                    refine (known_any _).mono ?_
                    rintro e w9 ⟨rfl, hk9⟩
                    have HK := hid (HK1.out.next hk9 (fun _ _ x => x) (fun _ _ x => x))
                    clear hk9
                    go_wp2_with (at_builtin; refine stopAt ?_; intro q hq)
                    go_ret
                    exact ⟨by first | rfl | trivial, HK.out⟩
end Go.Proofs.Ytnignhfallhblaa
