/- seawalllaw12: contracts for long and find; an aggregate load. Conditions: as the contracts name them. -/
import Derived.Test.YtnignhfallhblaaRlogA
import Derived.Test.YtnignhfallhblaaRlogM3
namespace Go.Proofs.Ytnignhfallhblaa
open Go.ChangeShapes Go.WideShapes Go.RowKit Go.Deep
open RM

section
variable {P : Program} {w : World} {a : Act} {o : Oper} {K : Act → World → Prop} {Q : Exit → Act → World → Prop}
/-- An aggregate read out of any place. -/
theorem wp_load_any (ty : TypeId) (x : Operand) (ho : o.op = .load ty x) (p : Addr) (hx : a.eval x = .pointer (some p)) (cs : List Value)
    (hc : ∀ j u, cs[j]? = some u → w.cell? (p.add j) = some u) (d : TypeDesc)
    (hu : P.underlying ty = some d) (hd : (match d with | .struct _ | .array _ _ => true | _ => false) = true) (hi : (P.info? ty).map (·.size) = some cs.length)
    (h : K (a.put o.dst (.agg cs.toArray)) w) : o.wp P a w K Q := by
  have hl := run_loadCells_list (P := P) w p cs hc
  cases hq : P.info? ty with
  | none => simp [hq] at hi
  | some i =>
    have hs : i.size = cs.length := by simpa [hq] using hi
    have hagg : (isAgg ty).run P w = .ok true w := by
      unfold isAgg
      rw [Sem.run_bind, run_underlying hu w]
      cases d <;> simp_all
    have hr : (loadVar ty p).run P w = .ok (.agg cs.toArray) w := by
      simp [loadVar, Sem.run_bind, hagg, sizeOf, typeInfo, hq, hs, hl]
    unfold Oper.wp execOp
    simp only [ho, hx, Instr.loadAt, Instr.sureAddr, Sem.run_bind, Sem.run_pure, Result.andThen_ok, hr]
    exact h
end

/-- One act, as the code loads it whole. -/
theorem Acts.row {w w' : World} {ao : Option Addr} {m c : Nat} {l : List ActL} (h : Acts w (.slice ao m c) l) (hk : Keep (fun _ => False) w w') (i : Nat) (hi : i < l.length) :
    ∃ ad bo d, ao = some ad ∧ (∀ j u, [Value.int .i64 l[i].kind, .int .u64 (l[i].slot : Nat), .slice bo l[i].value.length d][j]? = some u → w'.cell? ((ad.add (i * 3)).add j) = some u) ∧ Cells w bo l[i].value.length 1 (bytesV l[i].value) ∧
      (-9223372036854775808 ≤ l[i].kind ∧ l[i].kind ≤ 9223372036854775807) ∧ l[i].slot < 18446744073709551616 ∧ l[i].value.length ≤ maxLen := by
  obtain ⟨ao', c', hv, _, _, h3⟩ := h
  cases hv
  obtain ⟨ad, rfl, h4⟩ := h3 (by omega)
  obtain ⟨cs, _, ⟨kv, rfl, h5, h9, h10⟩, hc⟩ := h4 i hi
  obtain ⟨bo, d, rfl, h6, h7, h8⟩ := h5.cells
  refine ⟨ad, bo, d, rfl, fun j u hu => ?_, h8, h9, h10, by omega⟩
  rw [add_add]
  exact cells_old hk (hc j u hu)

set_option maxRecDepth 20000 in
theorem long_any (w0 w : World) (ao : Option Addr) (m c : Nat) (l : List ActL) (hl : Acts w0 (.slice ao m c) l) (hk : Keep (fun _ => False) w0 w) (hm : m = l.length) (hm63 : m ≤ maxLen) :
    Calls Try.prog 19 #[.slice ao m c] w fun e w' => ∃ b : Bool, e = .returned (.bool b) ∧ Keep (fun _ => False) w w' := by
  have HL := hid hl
  have HK0 := hid hk
  have Hm := hid hm
  have hm2 : (m : Int) ≤ 9223372036854775807 := by unfold maxLen at hm63; omega
  clear hl hk hm hm63
  go_enter Try.func19, Try.ntmps19
  go_wp2_with (at_builtin; refine stopAt ?_; intro q hq)
  go_loopw [3] (fun iv wr => ∃ i : Nat, i ≤ m ∧ i ≤ 400 ∧ iv = .int .i64 i ∧ Hid (Keep (fun _ => False) w wr)) (fun iv _ => m - (intOf iv).toNat)
  case atStart => exact ⟨0, Nat.zero_le _, Nat.zero_le _, rfl, hid (Keep.refl _ _)⟩
  case round =>
    obtain ⟨i, hi, hi4, rfl, HK⟩ := hrel
    by_cases h1 : i < m
    · have q1 : (i : Int) < m := by omega
      by_cases h2 : i < 400
      · have q2 : (i : Int) < 400 := by omega
        obtain ⟨ad, bo, d, rfl, e0, e1, e2, -⟩ := Acts.get HL.out (HK0.out.next HK.out (fun _ _ x => x) (fun _ _ x => x)) i (by rw [← Hm.out]; exact h1)
        obtain ⟨k, hk⟩ : ∃ k, k = (l[i]'(by rw [← Hm.out]; exact h1)).value.length := ⟨_, rfl⟩
        rw [← hk] at e2
        clear hk e0 e1
        by_cases h3 : 1000 < k
        · have q3 : (1000 : Int) < k := by omega
          go_wp2_with (at_builtin; refine stopAt ?_; intro q hq)
          go_ret
          exact ⟨true, by rfl, HK.out⟩
        · have q3 : decide ((1000 : Int) < (k : Int)) = false := by simp; omega
          go_wp2_with (at_builtin; refine stopAt ?_; intro q hq)
          exact ⟨⟨i + 1, by omega, by omega, by go_num, HK⟩, by simp [intOf]; omega⟩
      · have q2 : decide ((i : Int) < 400) = false := by simp; omega
        go_wp2_with (at_builtin; refine stopAt ?_; intro q hq)
        go_ret
        exact ⟨false, by rfl, HK.out⟩
    · have q1 : decide ((i : Int) < (m : Int)) = false := by simp; omega
      go_wp2_with (at_builtin; refine stopAt ?_; intro q hq)
      go_ret
      exact ⟨false, by rfl, HK.out⟩

def FindAt (us : List (Nat × Value)) (t : Nat) (z : Int) : Prop :=
  (z = -1 ∧ ∀ i (hi : i < us.length), us[i].1 ≠ t) ∨ ∃ k : Nat, ∃ hk : k < us.length, z = (k : Int) ∧ us[k].1 = t

set_option maxRecDepth 20000 in
theorem findl_any (w : World) (ao : Option Addr) (n c : Nat) (us : List (Nat × Value)) (t : Nat) (hr : Row w 32 2 (.slice ao n c) n (entsV us)) (hn : n = us.length) (hn6 : n ≤ 1000000) :
    Calls Try.prog 20 #[.slice ao n c, .int .u64 t] w fun e w' => ∃ z : Int, e = .returned (.int .i64 z) ∧ FindAt us t z ∧ Keep (fun _ => False) w w' := by
  have HR := hid hr
  have Hn := hid hn
  clear hr hn
  go_enter Try.func20, Try.ntmps20
  go_wp2_with (at_builtin; refine stopAt ?_; intro q hq)
  go_loopw [5] (fun iv wr => ∃ i : Nat, i ≤ n ∧ iv = .int .i64 i ∧ Hid (Keep (fun _ => False) w wr ∧ ∀ j (hj : j < us.length), j < i → us[j].1 ≠ t)) (fun iv _ => n - (intOf iv).toNat)
  case atStart => exact ⟨0, Nat.zero_le _, rfl, hid ⟨Keep.refl _ _, fun j hj h => by omega⟩⟩
  case round =>
    obtain ⟨i, hi, rfl, HK⟩ := hrel
    by_cases h1 : i < n
    · have q1 : (i : Int) < n := by omega
      have hil : i < us.length := by rw [← Hn.out]; exact h1
      obtain ⟨g, cap', hv, c0, c1⟩ := ent_at (HR.out.keep HK.out.1 (fun _ _ x => x)) i hil
      obtain ⟨rfl, rfl⟩ : ao = some ⟨g, 0, none⟩ ∧ c = cap' := by simpa using hv
      obtain ⟨x, hx⟩ : ∃ x, x = us[i].1 := ⟨_, rfl⟩
      rw [← hx] at c0
      have Hx := hid hx
      clear hx c1 hv
      by_cases hxt : x = t
      · have q2 : ((x : Int) == (t : Int)) = true := by simp [hxt]
        have Hxt := hid hxt
        clear hxt
        go_wp2_with (at_builtin; refine stopAt ?_; intro q hq)
        go_ret
        exact ⟨i, by rfl, .inr ⟨i, hil, rfl, by rw [← Hx.out]; exact Hxt.out⟩, HK.out.1⟩
      · have q2 : ((x : Int) == (t : Int)) = false := by simp; omega
        have HK2 := hid (show Keep (fun _ => False) w wr ∧ ∀ j (hj : j < us.length), j < i + 1 → us[j].1 ≠ t from ⟨HK.out.1, fun j hj h => by
          rcases Nat.lt_or_eq_of_le (Nat.le_of_lt_succ h) with y | y
          · exact HK.out.2 j hj y
          · subst y; rw [← Hx.out]; exact hxt⟩)
        clear hxt
        go_wp2_with (at_builtin; refine stopAt ?_; intro q hq)
        exact ⟨⟨i + 1, by omega, by go_num, HK2⟩, by simp [intOf]; omega⟩
    · have q1 : decide ((i : Int) < (n : Int)) = false := by simp; omega
      obtain rfl : i = n := by omega
      go_wp2_with (at_builtin; refine stopAt ?_; intro q hq)
      go_ret
      exact ⟨-1, by rfl, .inl ⟨rfl, fun j hj => HK.out.2 j hj (by rw [Hn.out]; exact hj)⟩, HK.out.1⟩
end Go.Proofs.Ytnignhfallhblaa
