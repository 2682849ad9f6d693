/- Logs whose holes are filled, one by one. Conditions: none. -/
import Derived.Test.YtnignhfallhblaaRlogM3
namespace Go.Proofs.Ytnignhfallhblaa.RM

theorem sorted_ge {l : List Nat} (h : l.Pairwise (· < ·)) : ∀ i (hi : i < l.length), i ≤ l[i]
  | 0, _ => Nat.zero_le _
  | i + 1, hi => by
    have := sorted_ge h i (by omega)
    have := List.pairwise_iff_getElem.1 h i (i + 1) (by omega) hi (Nat.lt_add_one i)
    omega
theorem sorted_short {l : List Nat} (h : l.Pairwise (· < ·)) {n : Nat} (hn : ∀ t ∈ l, t < n) : l.length ≤ n := by
  rcases Nat.eq_zero_or_pos l.length with x | x
  · omega
  · have := sorted_ge h (l.length - 1) (by omega)
    have := hn _ (List.getElem_mem (show l.length - 1 < l.length by omega))
    omega

structure Fill (g0 : Lg) (i : Nat) (g : Lg) : Prop where
  ap : g.ap = g0.ap
  has : ∀ t, Has g.l t ↔ Has g0.l t ∨ ∃ j, j < i ∧ (gapsOf g0)[j]? = some t
  len : g.l.length = g0.l.length + i

theorem Fill.zero (g : Lg) : Fill g 0 g := ⟨rfl, fun t => ⟨.inl, fun h => h.elim id fun ⟨j, hj, _⟩ => by omega⟩, rfl⟩

theorem gap_get {g0 : Lg} (h0 : Rising g0.l) {i : Nat} (hi : i < (gapsOf g0).length) : g0.ap < (gapsOf g0)[i] ∧ (∃ e ∈ g0.l, (gapsOf g0)[i] < e.1) ∧ ¬ Has g0.l (gapsOf g0)[i] ∧ ∀ j (hj : j < i), (gapsOf g0)[j] < (gapsOf g0)[i] := by
  obtain ⟨h1, h2, h3⟩ := (gapsOf_mem h0 _).1 (List.getElem_mem hi)
  exact ⟨h1, h2, h3, fun j hj => List.pairwise_iff_getElem.1 (gapsOf_rise h0) j i (by omega) hi hj⟩

theorem Fill.next {g0 g : Lg} {i : Nat} (h0 : Rising g0.l) (h : Fill g0 i g) (hi : i < (gapsOf g0).length) : IsNext g (gapsOf g0)[i] := by
  obtain ⟨h1, ⟨e, he, h2⟩, h3, h4⟩ := gap_get h0 hi
  refine ⟨by rw [h.ap]; exact h1, fun s a b => ?_, fun hh => ?_⟩
  · rw [h.has]
    by_cases hs : Has g0.l s
    · exact .inl hs
    · have hm := (gapsOf_mem h0 s).2 ⟨by rw [← h.ap]; exact a, ⟨e, he, by omega⟩, hs⟩
      obtain ⟨j, hj, hje⟩ := List.getElem_of_mem hm
      refine .inr ⟨j, ?_, by rw [List.getElem?_eq_getElem hj, hje]⟩
      rcases Nat.lt_trichotomy j i with x | x | x
      · exact x
      · subst x; omega
      · have := (gap_get h0 hj).2.2.2 i x; omega
  · rcases (h.has _).1 hh with x | ⟨j, hj, x⟩
    · exact h3 x
    · obtain ⟨hjl, hje⟩ := List.getElem?_eq_some_iff.1 x
      have := h4 j hj
      omega
theorem Fill.learn {g0 g : Lg} {i : Nat} (h0 : Rising g0.l) (h : Fill g0 i g) (hi : i < (gapsOf g0).length) (h1 : g.l.length < 4096) (h2 : (gapsOf g0)[i] < 18446744073709551615) :
    (RM.learn g (gapsOf g0)[i] []).1 = 0 ∧ Fill g0 (i + 1) (RM.learn g (gapsOf g0)[i] []).2 := by
  obtain ⟨n1, n2, n3⟩ := h.next h0 hi
  rw [learn_new n3 n1 h2 (Nat.zero_le _) h1]
  refine ⟨rfl, h.ap, fun t => ?_, ?_⟩
  · show Has (ins g.l _ []) t ↔ _
    rw [has_ins, h.has]
    constructor
    · rintro ((x | ⟨j, hj, x⟩) | rfl)
      · exact .inl x
      · exact .inr ⟨j, by omega, x⟩
      · exact .inr ⟨i, by omega, List.getElem?_eq_getElem hi⟩
    · rintro (x | ⟨j, hj, x⟩)
      · exact .inl (.inl x)
      · rcases Nat.lt_or_eq_of_le (Nat.le_of_lt_succ hj) with y | y
        · exact .inl (.inr ⟨j, y, x⟩)
        · subst y
          rw [List.getElem?_eq_getElem hi, Option.some.injEq] at x
          exact .inr x.symm
  · show (ins g.l _ []).length = _
    rw [ins_length, h.len]
    omega
theorem Fill.done {g0 g : Lg} (h0 : Rising g0.l) (hr : Rising g.l) (h : Fill g0 (gapsOf g0).length g) : IsNext g (top g0 + 1) ∧ gapsOf g = [] := by
  obtain ⟨t1, t2, t3⟩ := top_spec h0
  have below : ∀ t, Has g.l t → t ≤ top g0 := fun t ht => by
    rcases (h.has t).1 ht with ⟨v, hv⟩ | ⟨j, hj, x⟩
    · exact t1 _ hv
    · obtain ⟨hjl, rfl⟩ := List.getElem?_eq_some_iff.1 x
      obtain ⟨_, ⟨e, he, h2⟩, _, _⟩ := gap_get h0 hjl
      have := t1 e he
      omega
  have all : ∀ s, g0.ap < s → s ≤ top g0 → Has g.l s := fun s a b => by
    rw [h.has]
    by_cases hs : Has g0.l s
    · exact .inl hs
    · rcases t3 with t3 | ⟨e, he, t3⟩
      · omega
      · have : s ≠ e.1 := fun x => hs ⟨e.2, by rw [x]; exact he⟩
        obtain ⟨j, hj, hje⟩ := List.getElem_of_mem ((gapsOf_mem h0 s).2 ⟨a, ⟨e, he, by omega⟩, hs⟩)
        exact .inr ⟨j, hj, by rw [List.getElem?_eq_getElem hj, hje]⟩
  refine ⟨⟨by rw [h.ap]; omega, fun s a b => all s (by rw [← h.ap]; exact a) (by omega), fun x => by have := below _ x; omega⟩, ?_⟩
  refine List.eq_nil_iff_forall_not_mem.2 fun t ht => ?_
  obtain ⟨a, ⟨e, he, b⟩, c⟩ := (gapsOf_mem hr t).1 ht
  have := below e.1 ⟨e.2, he⟩
  exact c (all t (by rw [← h.ap]; exact a) (by omega))

/-- A log of few slots. -/
structure Small (g : Lg) : Prop where
  slots : ∀ e ∈ g.l, 1 ≤ e.1 ∧ e.1 ≤ 59
  ap : g.ap ≤ 59
theorem Small.learn {g : Lg} (h : Small g) (s : Nat) (v : List UInt8) (hs : s ≤ 59) : Small (RM.learn g s v).2 := by
  refine ⟨fun e he => ?_, by rw [learn_ap]; exact h.ap⟩
  rcases learn_mem he with x | ⟨rfl, x⟩
  · exact h.slots e x
  · simp only; omega
theorem Small.apply {g : Lg} (h : Small g) : Small (RM.apply g).2 := by
  refine ⟨fun e he => h.slots e (by rw [apply_l] at he; exact he), ?_⟩
  cases hq : (RM.apply g).1 with
  | none => rw [apply_none hq]; exact h.ap
  | some e =>
    obtain ⟨h1, h2, h3⟩ := apply_some hq
    have := (h.slots e h1).2
    rw [h3]
    show g.ap + 1 ≤ 59
    omega
theorem Small.few {g : Lg} (hok : Ok g) (h : Small g) : g.l.length ≤ 59 ∧ (gapsOf g).length ≤ 59 ∧ top g ≤ 59 ∧ ∀ t ∈ gapsOf g, t < 59 := by
  have hg : ∀ t ∈ gapsOf g, t < 59 := fun t ht => by
    obtain ⟨_, ⟨e, he, b⟩, _⟩ := (gapsOf_mem hok.rising t).1 ht
    have := (h.slots e he).2
    omega
  refine ⟨rising_short hok.rising h.slots, sorted_short (gapsOf_rise hok.rising) hg, ?_, hg⟩
  obtain ⟨t1, t2, t3⟩ := top_spec hok.rising
  rcases t3 with t3 | ⟨e, he, t3⟩
  · rw [t3]; exact h.ap
  · rw [← t3]; exact (h.slots e he).2
end Go.Proofs.Ytnignhfallhblaa.RM
