/- rlog: how a log lies in memory; contracts for its search. Conditions: as each contract names them. -/
import Derived.Test.YtnignhfallhblaaChecked
import Derived.Test.YtnignhfallhblaaBytes
import Derived.Test.YtnignhfallhblaaGuard
import Derived.Test.YtnignhfallhblaaLater
import Derived.Test.YtnignhfallhblaaRlogM
import Derived.WalkKit
import Derived.WalkLawsBesides
import Derived.WalkSpells
import Derived.OwnWalk
namespace Go.Proofs.Ytnignhfallhblaa
open Go.RowKit
open RM

def entV (e : Nat × Value) : List Value := [.int .u64 (e.1 : Int), e.2]
def entsV (l : List (Nat × Value)) : List Value := l.flatMap entV
theorem entsV_length (l : List (Nat × Value)) : (entsV l).length = l.length * 2 := by
  induction l with
  | nil => rfl
  | cons p l ih => simp only [entsV, List.flatMap_cons, List.length_append, List.length_cons] at *; rw [ih]; simp [entV]; omega
theorem entsV_append (l m : List (Nat × Value)) : entsV (l ++ m) = entsV l ++ entsV m := by simp [entsV]
theorem entsV_one (p : Nat × Value) : entsV [p] = entV p := by simp [entsV]
theorem entsV_take (l : List (Nat × Value)) (i : Nat) : (entsV l).take (i * 2) = entsV (l.take i) := by
  by_cases hi : i ≤ l.length
  · have e : entsV l = entsV (l.take i) ++ entsV (l.drop i) := by rw [← entsV_append, List.take_append_drop]
    have hl : (entsV (l.take i)).length = i * 2 := by rw [entsV_length, List.length_take]; omega
    rw [e, ← hl, List.take_left]
  · rw [List.take_of_length_le (by rw [entsV_length]; omega), List.take_of_length_le (by omega)]
theorem entsV_drop (l : List (Nat × Value)) (i : Nat) : (entsV l).drop (i * 2) = entsV (l.drop i) := by
  by_cases hi : i ≤ l.length
  · have e : entsV l = entsV (l.take i) ++ entsV (l.drop i) := by rw [← entsV_append, List.take_append_drop]
    have hl : (entsV (l.take i)).length = i * 2 := by rw [entsV_length, List.length_take]; omega
    rw [e, ← hl, List.drop_left]
  · rw [List.drop_of_length_le (by rw [entsV_length]; omega), List.drop_of_length_le (by omega)]; rfl
theorem entsV_get (l : List (Nat × Value)) (i : Nat) (hi : i < l.length) (j : Nat) (hj : j < 2) : (entsV l)[i * 2 + j]? = (entV l[i])[j]? := by
  have e : l = l.take i ++ [l[i]] ++ l.drop (i + 1) := by simp
  have hl : (entsV (l.take i)).length = i * 2 := by rw [entsV_length, List.length_take]; omega
  conv => lhs; rw [e]
  rw [entsV_append, entsV_append, List.append_assoc, List.getElem?_append_right (by omega), hl, entsV_one, show i * 2 + j - i * 2 = j by omega]
  rw [List.getElem?_append_left (by simp [entV]; omega)]
def entZero : Value := .agg #[.int .u64 0, .slice none 0 0]
theorem ty_ents : SliceTy Try.prog 35 32 entZero 2 32 := ⟨by kernel_rfl, by kernel_rfl, rfl, by decide⟩

theorem cells2 {w : World} {b : Nat} {T : TypeId} {a0 a1 : Value} (H : w.heap[b]? = some (.cells #[a0, a1] T (0, 0))) :
    w.cell? ⟨b, 0, none⟩ = some a0 ∧ w.cell? ⟨b, 1, none⟩ = some a1 ∧ (∀ o, w.frozen? ⟨b, o, none⟩ = false) ∧ b < w.heap.size := by
  refine ⟨?_, ?_, ?_, heap_lt H⟩ <;> simp [World.cell?, World.frozen?, H]

/-- One entry, as the code loads it. -/
theorem ent_at {wr : World} {v : Value} {l : List (Nat × Value)} {n : Nat} (h : Row wr 32 2 v n (entsV l)) (i : Nat) (hi : i < l.length) :
    ∃ g cap, v = .slice (some ⟨g, 0, none⟩) n cap ∧ wr.cell? ⟨g, i * 2, none⟩ = some (.int .u64 (l[i].1 : Int)) ∧ wr.cell? ⟨g, i * 2 + 1, none⟩ = some l[i].2 := by
  have h0 := entsV_get l i hi 0 (by decide)
  have h1 := entsV_get l i hi 1 (by decide)
  obtain ⟨g, cap, rfl, c0⟩ := h.getCell (show (entsV l)[i * 2 + 0]? = some (.int .u64 (l[i].1 : Int)) by rw [h0]; rfl)
  obtain ⟨g', cap', hv, c1⟩ := h.getCell (show (entsV l)[i * 2 + 1]? = some l[i].2 by rw [h1]; rfl)
  cases hv
  exact ⟨g, cap, rfl, c0, c1⟩

def cmpI (a b : Nat) : Int := if a < b then -1 else if b < a then 1 else 0

set_option maxRecDepth 20000 in
theorem cmp_any (w : World) (s t : Nat) (ao : Option Addr) (n c : Nat) :
    Calls Try.prog 45 #[.agg #[.int .u64 s, .slice ao n c], .int .u64 t] w fun e w' => e = .returned (.int .i64 (cmpI s t)) ∧ Keep (fun _ => False) w w' := by
  unfold cmpI
  by_cases h : s < t
  · rw [if_pos h]
    have d : decide (s < t) = true := by simpa using h
    go_enter Try.func45, Try.ntmps45
    go_wp2_with (at_builtin; refine stopAt ?_; intro q hq)
    go_ret
    exact ⟨by rfl, (Keep.refl _ _).alloc _⟩
  · rw [if_neg h]
    have d : decide (s < t) = false := by simpa using h
    by_cases h2 : t < s
    · rw [if_pos h2]
      have d2 : decide (t < s) = true := by simpa using h2
      go_enter Try.func45, Try.ntmps45
      go_wp2_with (at_builtin; refine stopAt ?_; intro q hq)
      go_ret
      exact ⟨by rfl, (Keep.refl _ _).alloc _⟩
    · rw [if_neg h2]
      have d2 : decide (t < s) = false := by simpa using h2
      go_enter Try.func45, Try.ntmps45
      go_wp2_with (at_builtin; refine stopAt ?_; intro q hq)
      go_ret
      exact ⟨by rfl, (Keep.refl _ _).alloc _⟩

set_option maxRecDepth 20000 in
set_option maxHeartbeats 1000000 in
theorem search_any (w : World) (l : List (Nat × Value)) (v : Value) (n t : Nat) (hr : Row w 32 2 v n (entsV l)) (hn : l.length = n) (hsm : n ≤ 1000000) (hus : ∀ e ∈ l, ∃ ao m c, e.2 = .slice ao m c) (hri : (l.map (·.1)).Pairwise (· < ·)) :
    Calls Try.prog 44 #[v, .int .u64 t, .func (.func 45) #[] #[]] w fun e w' =>
      ∃ i : Nat, e = .returned (.tuple #[.int .i64 i, .bool (decide ((l[i]?.map (·.1)) = some t))]) ∧ i ≤ n ∧ (∀ j (hj : j < l.length), j < i → l[j].1 < t) ∧ (∀ j (hj : j < l.length), i ≤ j → t ≤ l[j].1) ∧ Keep (fun _ => False) w w' := by
  obtain ⟨ad, cap, rfl, hcap, hmax, -⟩ := hr.form
  have HR := hid hr
  have HU := hid hus
  have HS := hid hri
  have HN := hid hn
  have hn63 : (n : Int) ≤ 9223372036854775807 := by unfold maxLen at hmax; omega
  clear hr hus hri hn
  go_enter Try.func44, Try.ntmps44
  go_wp2_with (at_builtin; refine stopAt ?_; intro q hq)
  go_loopw [9, 10] (fun iv jv wr => ∃ i j : Nat, i ≤ j ∧ j ≤ n ∧ iv = .int .i64 i ∧ jv = .int .i64 j ∧ Hid ((∀ p (hp : p < l.length), p < i → l[p].1 < t) ∧ ∀ p (hp : p < l.length), j ≤ p → t ≤ l[p].1) ∧ Hid (Keep (fun _ => False) w wr)) (fun iv jv _ => (intOf jv).toNat - (intOf iv).toNat)
  case atStart => exact ⟨0, n, Nat.zero_le _, Nat.le_refl _, rfl, rfl, hid ⟨fun p _ h => absurd h (Nat.not_lt_zero _), fun p hp h => by have := HN.out; omega⟩, hid (Keep.refl _ _)⟩
  case round =>
    obtain ⟨i, j, hij, hjn, rfl, rfl, HP, HK⟩ := hrel
    by_cases hlt : i < j
    · have h4 : (i : Int) < j := by omega
      obtain ⟨h, hh⟩ : ∃ h, h = (i + j) / 2 := ⟨_, rfl⟩
      have hhn : h < n := by omega
      have hhl : h < l.length := by rw [HN.out]; exact hhn
      have r1 : ((i : Int) + (j : Int)) / 2 = (h : Int) := by omega
      have h5 : (h : Int) < n := by omega
      have hhi : i ≤ h := by omega
      have hhj : h < j := by omega
      clear hh
      obtain ⟨g, cap', hv, c0, c1⟩ := ent_at (HR.out.keep HK.out (fun _ _ x => x)) h hhl
      cases hv
      obtain ⟨ao, m, c, hu⟩ := HU.out _ (List.getElem_mem hhl)
      rw [hu] at c1
      clear hu
      have hcmp := fun w => cmp_any w l[h].1 t ao m c
      by_cases hs : l[h].1 < t
      · rw [show cmpI l[h].1 t = -1 by unfold cmpI; rw [if_pos hs]] at hcmp
        have Hcmp := hid hcmp
        have Hs := hid hs
        obtain ⟨sl, hsl⟩ : ∃ s, s = l[h].1 := ⟨_, rfl⟩
        rw [← hsl] at c0 Hcmp
        clear hcmp hs hsl
        go_wp2_with (at_builtin; refine stopAt ?_; intro q hq)
        refine (Hcmp.out wr).mono ?_
        rintro e w3 ⟨rfl, hk3⟩
        have HK3 := hid (HK.out.next hk3 (fun _ _ x => x) (fun _ _ x => x))
        clear hk3 c0 c1
        go_wp2_with (at_builtin; refine stopAt ?_; intro q hq)
        go_roundw
        case rel => exact ⟨h + 1, j, by omega, hjn, by go_num, rfl, hid ⟨fun p hp hph => by
          rcases Nat.lt_or_eq_of_le (Nat.le_of_lt_succ hph) with x | x
          · have := List.pairwise_iff_getElem.1 HS.out p h (by simpa using hp) (by simpa using hhl) x
            simp at this
            have := Hs.out
            omega
          · subst x; exact Hs.out, HP.out.2⟩, HK3⟩
        case measure => simp [intOf]; omega
      · rw [show cmpI l[h].1 t = if t < l[h].1 then 1 else 0 by unfold cmpI; rw [if_neg hs]] at hcmp
        have Hs := hid hs
        obtain ⟨sl, hsl⟩ : ∃ s, s = l[h].1 := ⟨_, rfl⟩
        rw [← hsl] at c0 hcmp
        obtain ⟨cv, hcv⟩ : ∃ z : Nat, (z : Int) = if t < sl then 1 else 0 := by split; exact ⟨1, rfl⟩; exact ⟨0, rfl⟩
        rw [← hcv] at hcmp
        have Hcmp := hid hcmp
        clear hcmp hs hsl hcv
        have h6 : decide ((cv : Int) < 0) = false := by simp
        go_wp2_with (at_builtin; refine stopAt ?_; intro q hq)
        refine (Hcmp.out wr).mono ?_
        rintro e w3 ⟨rfl, hk3⟩
        have HK3 := hid (HK.out.next hk3 (fun _ _ x => x) (fun _ _ x => x))
        clear hk3 c0 c1
        go_wp2_with (at_builtin; refine stopAt ?_; intro q hq)
        go_roundw
        case rel => exact ⟨i, h, hhi, by omega, rfl, by go_num, hid ⟨HP.out.1, fun p hp hph => by
          rcases Nat.lt_or_eq_of_le hph with x | x
          · have := List.pairwise_iff_getElem.1 HS.out h p (by simpa using hhl) (by simpa using hp) x
            simp at this
            have := Hs.out
            omega
          · subst x; have := Hs.out; omega⟩, HK3⟩
        case measure => simp [intOf]; omega
    · obtain rfl : i = j := by omega
      have h4 : decide ((i : Int) < i) = false := by simp
      by_cases hin : i < n
      · have h5 : (i : Int) < n := by omega
        have hil : i < l.length := by rw [HN.out]; exact hin
        obtain ⟨g, cap', hv, c0, c1⟩ := ent_at (HR.out.keep HK.out (fun _ _ x => x)) i hil
        cases hv
        obtain ⟨ao, m, c, hu⟩ := HU.out _ (List.getElem_mem hil)
        rw [hu] at c1
        clear hu
        have hcmp := fun w => cmp_any w l[i].1 t ao m c
        have hge := HP.out.2 i hil (Nat.le_refl _)
        by_cases hs : l[i].1 = t
        · rw [show cmpI l[i].1 t = 0 by unfold cmpI; rw [if_neg (by omega), if_neg (by omega)]] at hcmp
          have hfound : decide ((l[i]?.map (·.1)) = some t) = true := by rw [List.getElem?_eq_getElem hil]; simp [hs]
          rw [hs] at c0 hcmp
          have Hcmp := hid hcmp
          have Hf := hid hfound
          clear hcmp hs hfound hge
          go_wp2_with (at_builtin; refine stopAt ?_; intro q hq)
          refine (Hcmp.out wr).mono ?_
          rintro e w3 ⟨rfl, hk3⟩
          have HK3 := hid (HK.out.next hk3 (fun _ _ x => x) (fun _ _ x => x))
          clear hk3 c0 c1
          go_wp2_with (at_builtin; refine stopAt ?_; intro q hq)
          go_ret2
          exact ⟨i, by rw [Hf.out]; rfl, hjn, HP.out.1, HP.out.2, HK3.out⟩
        · rw [show cmpI l[i].1 t = 1 by unfold cmpI; rw [if_neg (by omega), if_pos (by omega)]] at hcmp
          have hfound : decide ((l[i]?.map (·.1)) = some t) = false := by rw [List.getElem?_eq_getElem hil]; simp [hs]
          obtain ⟨sl, hsl⟩ : ∃ s, s = l[i].1 := ⟨_, rfl⟩
          rw [← hsl] at c0 hcmp
          have Hcmp := hid hcmp
          have Hf := hid hfound
          clear hcmp hs hfound hge hsl
          go_wp2_with (at_builtin; refine stopAt ?_; intro q hq)
          refine (Hcmp.out wr).mono ?_
          rintro e w3 ⟨rfl, hk3⟩
          have HK3 := hid (HK.out.next hk3 (fun _ _ x => x) (fun _ _ x => x))
          clear hk3 c0 c1
          go_wp2_with (at_builtin; refine stopAt ?_; intro q hq)
          go_ret2
          exact ⟨i, by rw [Hf.out]; rfl, hjn, HP.out.1, HP.out.2, HK3.out⟩
      · have h5 : decide ((i : Int) < n) = false := by simp; omega
        have hfound : decide ((l[i]?.map (·.1)) = some t) = false := by rw [List.getElem?_eq_none (by rw [HN.out]; omega)]; simp
        have Hf := hid hfound
        clear hfound
        go_wp2_with (at_builtin; refine stopAt ?_; intro q hq)
        go_ret2
        exact ⟨i, by rw [Hf.out]; rfl, hjn, HP.out.1, HP.out.2, HK.out⟩
end Go.Proofs.Ytnignhfallhblaa
