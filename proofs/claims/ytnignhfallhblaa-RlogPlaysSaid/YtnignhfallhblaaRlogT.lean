/- Logs that learn of the same values. Conditions: none. -/
import Derived.Test.YtnignhfallhblaaRlogR
namespace Go.Proofs.Ytnignhfallhblaa.RM

/-- All that is kept are values of the list, by slot. -/
def Tells (vs : List (List UInt8)) (n : Nat) (g : Lg) : Prop := ∀ e ∈ g.l, 1 ≤ e.1 ∧ e.1 ≤ n ∧ vs[e.1 - 1]? = some e.2

theorem rising_ge {l : List Ent} (h : Rising l) (h1 : ∀ e ∈ l, 1 ≤ e.1) : ∀ i (hi : i < l.length), i + 1 ≤ l[i].1
  | 0, hi => h1 _ (List.getElem_mem hi)
  | i + 1, hi => by
    have := rising_ge h h1 i (by omega)
    have := rising_get h (Nat.lt_add_one i) hi
    omega
theorem rising_short {l : List Ent} (h : Rising l) {n : Nat} (h1 : ∀ e ∈ l, 1 ≤ e.1 ∧ e.1 ≤ n) : l.length ≤ n := by
  by_cases h0 : l.length = 0
  · omega
  · have := rising_ge h (fun e he => (h1 e he).1) (l.length - 1) (by omega)
    have := (h1 _ (List.getElem_mem (show l.length - 1 < l.length by omega))).2
    omega
theorem kept_mem {l : List Ent} {s : Nat} {u : List UInt8} (h : kept l s = some u) : (s, u) ∈ l := by
  simp only [kept, Option.map_eq_some_iff] at h
  obtain ⟨e, he, rfl⟩ := h
  have h1 := List.find?_some he
  simp at h1
  have := List.mem_of_find?_eq_some he
  rw [← h1]
  exact this

theorem learn_ap (g : Lg) (s : Nat) (v : List UInt8) : (learn g s v).2.ap = g.ap := by
  unfold learn
  split
  · rfl
  · split
    · rfl
    · split
      · split <;> rfl
      · split
        · rfl
        · split <;> rfl
theorem learn_tells {vs : List (List UInt8)} {n : Nat} {g : Lg} (hok : Ok g) (h : Tells vs n g) (hn : n ≤ 4000) {s : Nat} (hs : s < n) {v : List UInt8} (hv : vs[s]? = some v) (hl : v.length ≤ 100) :
    (learn g (s + 1) v).1 = 0 ∧ Tells vs n (learn g (s + 1) v).2 := by
  unfold learn
  rw [if_neg (by omega), if_neg (by omega)]
  have hlen := rising_short hok.rising (n := n) (fun e he => ⟨(h e he).1, (h e he).2.1⟩)
  cases hk : kept g.l (s + 1) with
  | some u =>
    have := (h _ (kept_mem hk)).2.2
    simp only [Nat.add_sub_cancel] at this
    rw [hv] at this
    simp only [Option.some.injEq] at this
    subst this
    simp only [if_pos]
    exact ⟨trivial, h⟩
  | none =>
    simp only []
    split
    · exact ⟨rfl, h⟩
    · rw [if_neg (by omega)]
      refine ⟨rfl, fun e he => ?_⟩
      rcases mem_ins he with he | rfl
      · exact h e he
      · exact ⟨by simp, by simp; omega, by simpa using hv⟩

theorem apply_some {g : Lg} {e : Ent} (h : (apply g).1 = some e) : e ∈ g.l ∧ e.1 = g.ap + 1 ∧ (apply g).2 = { g with ap := g.ap + 1 } := by
  unfold apply at h ⊢
  cases hk : kept g.l (g.ap + 1) with
  | none => rw [hk] at h; cases h
  | some u =>
    rw [hk] at h
    simp only [Option.some.injEq] at h
    subst h
    exact ⟨kept_mem hk, rfl, rfl⟩
theorem apply_l (g : Lg) : (apply g).2.l = g.l := by
  unfold apply
  split <;> rfl
theorem apply_tells {vs : List (List UInt8)} {n : Nat} {g : Lg} (h : Tells vs n g) : Tells vs n (apply g).2 := by
  intro e he
  rw [apply_l] at he
  exact h e he

theorem rest_mem : ∀ (k : Nat) (g : Lg) (i : Nat) (hi : i < (RM.rest k g).1.length), (RM.rest k g).1[i] ∈ g.l ∧ (RM.rest k g).1[i].1 = g.ap + i + 1
  | 0, g, i, hi => by simp [RM.rest] at hi
  | k + 1, g, i, hi => by
    cases hq : (apply g).1 with
    | none => rw [rest_none hq] at hi; simp at hi
    | some e =>
      obtain ⟨h1, h2, h3⟩ := apply_some hq
      have hr := rest_some (k := k) hq
      rw [h3] at hr
      generalize RM.rest (k + 1) g = R at hr hi ⊢
      subst hr
      match i with
      | 0 => exact ⟨h1, by simpa using h2⟩
      | i + 1 =>
        have := rest_mem k { g with ap := g.ap + 1 } i (by simpa using hi)
        refine ⟨by simpa using this.1, ?_⟩
        have h := this.2
        simp only [List.getElem_cons_succ]
        simp only at h
        omega
end Go.Proofs.Ytnignhfallhblaa.RM
