/- rlog: a log that is not there; what lists are apart; all entries of a log. Conditions: as the contracts name them. -/
import Derived.Test.YtnignhfallhblaaRlogF
import Derived.Test.YtnignhfallhblaaOwn
namespace Go.Proofs.Ytnignhfallhblaa
open Go.RowKit
open RM

set_option maxRecDepth 20000 in
theorem nil_apply (w : World) : Calls Try.prog 13 #[.pointer none] w fun e w' => e = .returned (.tuple #[.agg #[.int .u64 0, .slice none 0 0], .bool false]) ∧ Keep (fun _ => False) w w' := by
  have hA := heap_alloc_new w (.cells #[.int .u64 0, .slice none 0 0] 32)
  have kA : Keep (fun _ => False) w (w.alloc (.cells #[.int .u64 0, .slice none 0 0] 32)) := (Keep.refl _ _).alloc _
  go_enter Try.func13, Try.ntmps13
  go_wp2_with (at_builtin; refine stopAt ?_; intro q hq)
  obtain ⟨w2, hw2⟩ : ∃ wA, wA = w.alloc (.cells #[.int .u64 0, .slice none 0 0] 32) := ⟨_, rfl⟩
  rw [← hw2] at hA kA ⊢
  refine bodyPost_ret (results_agg2 rfl _ _ w.heap.size rfl [.int .u64 0, .slice none 0 0] ?_ _ Try.underlying32 rfl (by kernel_rfl)) rfl ?_
  · intro j u hu
    rw [cell_of_row _ _ _ _ _ _ hA]
    simpa using hu
  · exact ⟨by rfl, kA⟩
theorem nil_learn (w : World) : Calls Try.prog 12 #[.pointer none, .int .u64 1, .slice none 0 0] w fun e w' => e = .returned (.int .i64 1) ∧ Keep (fun _ => False) w w' := by
  go_enter Try.func12, Try.ntmps12
  go_wp2_with (at_builtin; refine stopAt ?_; intro q hq)
  go_ret
  exact ⟨by rfl, Keep.refl _ _⟩
theorem nil_applied (w : World) : Calls Try.prog 21 #[.pointer none] w fun e w' => e = .returned (.int .u64 0) ∧ Keep (fun _ => False) w w' := by
  go_enter Try.func21, Try.ntmps21
  go_wp2_with (at_builtin; refine stopAt ?_; intro q hq)
  go_ret
  exact ⟨by rfl, Keep.refl _ _⟩
theorem nil_next (w : World) : Calls Try.prog 17 #[.pointer none] w fun e w' => e = .returned (.int .u64 0) ∧ Keep (fun _ => False) w w' := by
  go_enter Try.func17, Try.ntmps17
  go_wp2_with (at_builtin; refine stopAt ?_; intro q hq)
  go_ret
  exact ⟨by rfl, Keep.refl _ _⟩
theorem nil_top (w : World) : Calls Try.prog 23 #[.pointer none] w fun e w' => e = .returned (.int .u64 0) ∧ Keep (fun _ => False) w w' := by
  go_enter Try.func23, Try.ntmps23
  go_wp2_with (at_builtin; refine stopAt ?_; intro q hq)
  go_ret
  exact ⟨by rfl, Keep.refl _ _⟩
theorem nil_holes (w : World) : Calls Try.prog 18 #[.pointer none, .int .i64 9] w fun e w' => e = .returned (.slice none 0 0) ∧ Keep (fun _ => False) w w' := by
  go_enter Try.func18, Try.ntmps18
  go_wp2_with (at_builtin; refine stopAt ?_; intro q hq)
  go_ret
  exact ⟨by rfl, Keep.refl _ _⟩
theorem nil_catch (w : World) : Calls Try.prog 16 #[.pointer none, .int .u64 0, .int .i64 9] w fun e w' => e = .returned (.slice none 0 0) ∧ Keep (fun _ => False) w w' := by
  go_enter Try.func16, Try.ntmps16
  go_wp2_with (at_builtin; refine stopAt ?_; intro q hq)
  go_ret
  exact ⟨by rfl, Keep.refl _ _⟩
theorem nil_trim (w : World) : Calls Try.prog 31 #[.pointer none, .int .u64 9] w fun e w' => e = .returned (.int .i64 0) ∧ Keep (fun _ => False) w w' := by
  go_enter Try.func31, Try.ntmps31
  go_wp2_with (at_builtin; refine stopAt ?_; intro q hq)
  go_ret
  exact ⟨by rfl, Keep.refl _ _⟩
theorem nil_install (w : World) : Calls Try.prog 22 #[.pointer none, .int .u64 9] w fun e w' => e = .returned (.bool false) ∧ Keep (fun _ => False) w w' := by
  go_enter Try.func22, Try.ntmps22
  go_wp2_with (at_builtin; refine stopAt ?_; intro q hq)
  go_ret
  exact ⟨by rfl, Keep.refl _ _⟩

/-- Values that no two share a block, nor with v: whose each block is. -/
theorem colours (v : Value) (vs : List Value) (hd : vs.Pairwise fun a b => ∀ k, a.ownBlock = some k → b.ownBlock ≠ some k) (ho : ∀ u ∈ vs, ∀ k, u.ownBlock = some k → v.ownBlock ≠ some k) :
    ∃ c : Nat → Nat, (∀ k, v.ownBlock = some k → c k = 0) ∧ ∀ (j : Nat) u k, vs[j]? = some u → u.ownBlock = some k → c k = j + 2 := by
  refine ⟨fun k => match vs.findIdx? (fun u => decide (u.ownBlock = some k)) with | some j => j + 2 | none => 0, fun k hk => ?_, fun j u k hu hk => ?_⟩
  · have : vs.findIdx? (fun u => decide (u.ownBlock = some k)) = none := by
      rw [List.findIdx?_eq_none_iff]
      intro u hu
      simp only [decide_eq_false_iff_not]
      exact fun e => ho u hu k e hk
    simp only [this]
  · obtain ⟨hj, rfl⟩ := List.getElem?_eq_some_iff.1 hu
    have : vs.findIdx? (fun u => decide (u.ownBlock = some k)) = some j := by
      rw [List.findIdx?_eq_some_iff_getElem]
      refine ⟨hj, by simpa using hk, fun i hi => ?_⟩
      simp only [decide_eq_true_eq]
      exact fun e => List.pairwise_iff_getElem.1 hd i j (by omega) hj hi k e hk
    simp only [this]

theorem RM.train_max : ∀ {l : List Ent} {s : Nat} (k : Nat), Rising l → (∀ e ∈ l, s ≤ e.1) → (train l s k).length = k ∨ ¬ Has l (s + (train l s k).length)
  | [], s, k, _, _ => .inr fun ⟨v, h⟩ => by simp at h
  | e :: l, s, 0, _, _ => .inl rfl
  | e :: l, s, k + 1, h, h1 => by
    have hr : Rising l := (List.pairwise_cons.1 h).2
    have he := (List.pairwise_cons.1 h).1
    by_cases hs : e.1 = s
    · have ht : train (e :: l) s (k + 1) = e :: train l (s + 1) k := by simp [train, hs]
      rw [ht, List.length_cons]
      rcases RM.train_max (l := l) (s := s + 1) k hr (fun x hx => by have := he x hx; omega) with x | x
      · exact .inl (by rw [x])
      · refine .inr fun ⟨v, hv⟩ => ?_
        rcases List.mem_cons.1 hv with hv | hv
        · have := congrArg Prod.fst hv
          simp only at this
          omega
        · exact x ⟨v, by rw [show s + 1 + (train l (s + 1) k).length = s + ((train l (s + 1) k).length + 1) by omega]; exact hv⟩
    · have ht : train (e :: l) s (k + 1) = [] := by simp [train, hs]
      rw [ht]
      refine .inr fun ⟨v, hv⟩ => ?_
      rcases List.mem_cons.1 hv with hv | hv
      · exact hs (by have := congrArg Prod.fst hv; simpa using this.symm)
      · have := he _ hv
        have := h1 e List.mem_cons_self
        simp only [List.length_nil, Nat.add_zero] at *
        omega
theorem RM.catch_max {g : Lg} (h : Rising g.l) (s : Nat) (most : Int) : (RM.catch_ g s most).length = most.toNat ∨ ¬ Has g.l (s + (RM.catch_ g s most).length) := by
  rcases RM.train_max (s := s) most.toNat (rising_from h s) (fun e he => ((mem_from h s e).1 he).2) with x | x
  · exact .inl x
  · exact .inr fun hh => x ((has_from h s _).2 ⟨hh, Nat.le_add_right _ _⟩)

/-- All that a log has that learned of the first n values. -/
theorem RM.all_there {L : List (List UInt8)} {n : Nat} {g : Lg} (hr : Rising g.l) (ht : Tells L n g) (hh : ∀ s, 0 < s → s ≤ n → Has g.l s) {most : Int} (hm : (n : Int) < most) (hn : n ≤ L.length) :
    (RM.catch_ g 1 most).length = n ∧ ∀ i (hi : i < (RM.catch_ g 1 most).length) (hl : i < L.length), (RM.catch_ g 1 most)[i] = (i + 1, L[i]) := by
  obtain ⟨h1, h2⟩ := catch_spec g 1 most
  have hle : (RM.catch_ g 1 most).length ≤ n := by
    rcases Nat.eq_zero_or_pos (RM.catch_ g 1 most).length with x | x
    · omega
    · obtain ⟨a, b⟩ := h2 ((RM.catch_ g 1 most).length - 1) (by omega)
      have := (ht _ a).2.1
      omega
  have hge : n ≤ (RM.catch_ g 1 most).length := by
    rcases RM.catch_max hr 1 most with x | x
    · omega
    · rcases Nat.lt_or_ge (RM.catch_ g 1 most).length n with y | y
      · exact absurd (hh _ (by omega) (by omega)) x
      · exact y
  refine ⟨by omega, fun i hi hl => ?_⟩
  obtain ⟨a, b⟩ := h2 i hi
  obtain ⟨_, _, c⟩ := ht _ a
  rw [b, show 1 + i - 1 = i by omega, List.getElem?_eq_getElem hl, Option.some.injEq] at c
  exact Prod.ext (by rw [b]; omega) c.symm
end Go.Proofs.Ytnignhfallhblaa
