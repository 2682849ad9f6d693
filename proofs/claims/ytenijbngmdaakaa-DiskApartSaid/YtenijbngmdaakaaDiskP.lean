/- DiskPlays: the walk. Conditions: none but that the arguments are an int and acts. -/
import Derived.Test.YtenijbngmdaakaaPlay
namespace Go.Proofs.Ytenijbngmdaakaa
open Go.ChangeShapes Go.WideShapes Go.RowKit Go.Deep
open DM

section
variable {P : Program} {w : World} {a : Act} {o : Oper} {K : Act → World → Prop} {Q : Exit → Act → World → Prop}
/-- An aggregate read out of any place. -/
theorem wp_load_any (ty : TypeId) (x : Operand) (ho : o.op = .load ty x) (p : Addr) (hx : a.eval x = .pointer (some p)) (cs : List Value)
    (hc : ∀ j u, cs[j]? = some u → w.cell? (p.add j) = some u) (d : TypeDesc)
    (hu : P.underlying ty = some d) (hd : (match d with | .struct _ | .array _ _ => true | _ => false) = true) (hi : (P.info? ty).map (·.size) = some cs.length)
    (h : K (a.put o.dst (.agg cs.toArray)) w) : o.wp P a w K Q := by
  have hl := run_loadCells_list (P := P) w p cs hc
  cases hq : P.info? ty with
  | none => simp [hq] at hi
  | some i =>
    have hs : i.size = cs.length := by simpa [hq] using hi
    have hagg : (isAgg ty).run P w = .ok true w := by
      unfold isAgg
      rw [Sem.run_bind, run_underlying hu w]
      cases d <;> simp_all
    have hr : (loadVar ty p).run P w = .ok (.agg cs.toArray) w := by
      simp [loadVar, Sem.run_bind, hagg, sizeOf, typeInfo, hq, hs, hl]
    unfold Oper.wp execOp
    simp only [ho, hx, Instr.loadAt, Instr.sureAddr, Sem.run_bind, Sem.run_pure, Result.andThen_ok, hr]
    exact h
end

/-- One given act as the code reads it whole. -/
theorem Acts.row {w w' : World} {ao : Option Addr} {m c : Nat} {l : List Act3} (h : Acts w (.slice ao m c) l) (hk : Keep (fun _ => False) w w') (i : Nat) (hi : i < l.length) :
    ∃ ad kv, ao = some ad ∧ (∀ j u, [Value.int .i64 l[i].kind, .int .i64 l[i].at_, .int .u8 (l[i].fill.toNat : Int), .int .i64 l[i].n, kv][j]? = some u → w'.cell? ((ad.add (i * 5)).add j) = some u) ∧ Ints w kv l[i].keep ∧
      (-9223372036854775808 ≤ l[i].kind ∧ l[i].kind ≤ 9223372036854775807) ∧ (-9223372036854775808 ≤ l[i].at_ ∧ l[i].at_ ≤ 9223372036854775807) ∧ (-9223372036854775808 ≤ l[i].n ∧ l[i].n ≤ 9223372036854775807) := by
  obtain ⟨ao', c', hv, _, _, h3⟩ := h
  cases hv
  obtain ⟨ad, rfl, h4⟩ := h3 (by omega)
  obtain ⟨cs, _, ⟨kv, rfl, h5⟩, hc⟩ := h4 i hi
  refine ⟨ad, kv, rfl, fun j u hu => ?_, h5⟩
  rw [add_add]
  have hu' := hc j u hu
  rw [World.cell?_of_block (hk.block _ (World.block_lt_of_cell? w _ hu') id)]
  exact hu'

structure PlRel (w0 : World) (b c : Nat) (k : Nat) (wr : World) : Prop where
  ex : ∃ F G D, Pair w0 b c F G D D wr ∧ D.waits.length ≤ k

set_option maxRecDepth 20000 in
set_option maxHeartbeats 2000000 in
theorem plays_walk (w : World) (a : Int) (ha : -9223372036854775808 ≤ a) (hb : a ≤ 9223372036854775807) (v : Value) (l : List Act3) (hl : Acts w v l) :
    Calls Try.prog 6 #[.int .i64 a, v] w fun e w' => e = .returned (.bool true) ∧ Keep (fun _ => False) w w' := by
  obtain ⟨ao, c, rfl, hlc, hcm⟩ := hl.form
  have HL := hid hl
  clear hl hcm
  obtain ⟨m, hm⟩ : ∃ m, m = l.length := ⟨_, rfl⟩
  rw [← hm] at HL hlc ⊢
  have Hm := hid hm
  clear hm
  by_cases big : 64 < a ∧ a ≤ 2048
  · obtain ⟨g1, g2⟩ := big
    go_enter Try.func6, Try.ntmps6
    go_wp2_with (at_builtin; refine stopAt ?_; intro q hq)
    refine (known_any w).mono ?_
    rintro e w1 ⟨rfl, hk1⟩
    go_wp2_with (at_builtin; refine stopAt ?_; intro q hq)
    go_ret
    exact ⟨by rfl, hk1⟩
  · have big' : ¬ 64 < a ∨ (64 < a ∧ ¬ a ≤ 2048) := by omega
    by_cases none_ : a < 1 ∨ 2048 < a
    · have N1 := hid (new_none w a none_)
      have N2 := hid (ref_new_none w a none_)
      clear none_ big
      rcases big' with g1 | ⟨g0, g1⟩
      all_goals
        go_enter Try.func6, Try.ntmps6
        go_wp2_with (at_builtin; refine stopAt ?_; intro q hq)
        refine N1.out.mono ?_
        rintro e w1 ⟨rfl, rfl⟩
        go_wp2_with (at_builtin; refine stopAt ?_; intro q hq)
        refine N2.out.mono ?_
        rintro e w1 ⟨rfl, rfl⟩
        go_wp2_with (at_builtin; refine stopAt ?_; intro q hq)
        refine (known_any w).mono ?_
        rintro e w1 ⟨rfl, hk1⟩
        go_wp2_with (at_builtin; refine stopAt ?_; intro q hq)
        go_ret
        exact ⟨by rfl, hk1⟩
    · obtain ⟨n, rfl⟩ : ∃ n : Nat, (n : Int) = a := ⟨a.toNat, by omega⟩
      have n1 : 0 < n := by omega
      have n2 : n ≤ 64 := by omega
      have g1 : ¬ 64 < (n : Int) := by omega
      clear big big' none_ ha hb
      go_enter Try.func6, Try.ntmps6
      go_wp2_with (at_builtin; refine stopAt ?_; intro q hq)
      refine (new_any w n n1 (by omega)).mono ?_
      rintro e w1 ⟨b, F1, rfl, hD1, hk1, hF1⟩
      have Hd := hid (And.intro hD1 (And.intro hk1 hF1))
      clear hD1 hk1 hF1
      go_wp2_with (at_builtin; refine stopAt ?_; intro q hq)
      refine (ref_new w1 n n1 (by omega)).mono ?_
      rintro e w2 ⟨c', G1, rfl, hD2, hk2, hF2⟩
      obtain ⟨hD1, hk1, hF1⟩ := Hd.out
      have P1 : Pair w b c' F1 G1 (DM.new n) (DM.new n) w2 := ⟨hD1.keep hk2 (fun _ _ x => x), hD2, fun k x y => by have := hD1.lt k x; have := hF2 k y; omega,
        fun k x => x.elim (hF1 k) fun x => Nat.le_trans hk1.size (hF2 k x), hk1.next hk2 (fun _ _ x => x) fun _ _ x => x⟩
      have HR1 := hid (PlRel.mk (k := 0) ⟨_, _, _, P1, by simp [DM.new]⟩)
      clear P1 hD2 hk2 hF2 hD1 hk1 hF1 Hd
      go_wp2_with (at_builtin; refine stopAt ?_; intro q hq)
      go_loopw [9] (fun i wr => ∃ k : Nat, k ≤ m ∧ k ≤ 150 ∧ i = .int .i64 k ∧ Hid (PlRel w b c' k wr)) (fun i _ => 150 - (intOf i).toNat)
      case atStart => exact ⟨0, Nat.zero_le _, Nat.zero_le _, rfl, HR1⟩
      case round =>
        clear HR1
        obtain ⟨k, hk, hk150, rfl, HR⟩ := hrel
        by_cases hgo : k < m ∧ k < 150
        · have h2 : (k : Int) < m := by omega
          have h1 : (k : Int) < 150 := by omega
          have hkl : k < l.length := by rw [← Hm.out]; exact hgo.1
          obtain ⟨F, G, D, P, hw⟩ := HR.out.ex
          obtain ⟨ad, kv, rfl, hrow, hkv, b0, b1, b2⟩ := Acts.row HL.out P.keep k hkl
          have Hrow := hid hrow
          clear hrow
          have hgo1 := hgo.1
          have hgo2 := hgo.2
          clear hgo
          go_wp2_with (first | (at_builtin; refine stopAt ?_; intro q hq) | (refine stopOp (.load 37 _) rfl ?_; intro q hq))
          (refine hq.out ?_; clear hq q)
          refine wpList_plain rfl (fun K hK => ?_)
          refine wp_load_any 37 (.tmp 61) rfl (ad.add (k * 5)) rfl _ Hrow.out _ Try.underlying37 rfl (by kernel_rfl) ?_
          refine hK _ _ ?_
          clear hK K
          go_wp2_with (at_builtin; refine stopAt ?_; intro q hq)
          have hpl := play_any w wr b c' F G D D l[k] kv P hkv b0 b1 b2 (by omega) (by omega)
          rw [show decide (codeD D l[k] = codeD D l[k]) = true by simp] at hpl
          refine hpl.mono ?_
          rintro e w3 ⟨rfl, F3, G3, P3⟩
          obtain ⟨_, _, had, -, a1, -⟩ := Acts.get HL.out P3.keep k hkl
          cases had
          clear hpl hkv P
          go_wp2_with (at_builtin; refine stopAt ?_; intro q hq)
          have hst := stepD_waits D l[k]
          refine (alike_any w w3 b c' F3 G3 (stepD D l[k]) l[k].at_ P3 (by omega) (by omega)).mono ?_
          rintro e w4 ⟨rfl, hk4⟩
          have P4 := hid (P3.step hk4)
          clear P3 hk4 a1
          go_wp2_with (at_builtin; refine stopAt ?_; intro q hq)
          go_roundw
          case rel => exact ⟨k + 1, by omega, by omega, by go_num, hid ⟨⟨F3, G3, _, P4.out, by omega⟩⟩⟩
          case measure => simp [intOf]; omega
        · obtain ⟨F, G, D, P, hw⟩ := HR.out.ex
          have HP := hid P
          clear P
          have hw150 : D.waits.length ≤ 150 := by omega
          clear hw
          have cut : (¬ (k : Int) < m) ∨ ((k : Int) < m ∧ ¬ (k : Int) < 150) := by omega
          clear hgo
          rcases cut with c1 | ⟨c0, c1⟩
          all_goals
            go_wp2_with (at_builtin; refine stopAt ?_; intro q hq)
            obtain ⟨wq, hwq⟩ : ∃ wq, wq = wr := ⟨_, rfl⟩
            subst hwq
            go_loopw [11] (fun i wr => ∃ j : Nat, j ≤ n ∧ i = .int .i64 j ∧ Hid (Keep (fun _ => False) wq wr)) (fun i _ => n - (intOf i).toNat)
            case atStart => exact ⟨0, Nat.zero_le _, rfl, hid (Keep.refl _ _)⟩
            case round =>
              obtain ⟨j, hj, rfl, HK⟩ := hrel
              by_cases hjn : j < n
              · have h1 : (j : Int) < n := by omega
                go_wp2_with (at_builtin; refine stopAt ?_; intro q hq)
                refine (alike_any w wr b c' F G D j (HP.out.step HK.out) (by omega) (by omega)).mono ?_
                rintro e w4 ⟨rfl, hk4⟩
                have HK4 := hid (HK.out.next hk4 (fun _ _ x => x) (fun _ _ x => x))
                clear hk4
                go_wp2_with (at_builtin; refine stopAt ?_; intro q hq)
                go_roundw
                case rel => exact ⟨j + 1, by omega, by go_num, HK4⟩
                case measure => simp [intOf]; omega
              · have h1 : ¬ (j : Int) < n := by omega
                go_wp2_with (at_builtin; refine stopAt ?_; intro q hq)
                refine (known_any wr).mono ?_
                rintro e w5 ⟨rfl, hk5⟩
                go_wp2_with (at_builtin; refine stopAt ?_; intro q hq)
                go_ret
                exact ⟨by rfl, (HP.out.step HK.out).keep.next hk5 (fun _ _ x => x) (fun _ _ x => x)⟩
end Go.Proofs.Ytenijbngmdaakaa
