/- Logs as plain data: what is there, what is next, what lies between. Conditions: none. -/
import Derived.Test.YtnignhfallhblaaRlogT
import Derived.Test.YtnignhfallhblaaRlogM2
namespace Go.Proofs.Ytnignhfallhblaa.RM

/-- A slot is there. -/
def Has (l : List Ent) (s : Nat) : Prop := ∃ v, (s, v) ∈ l
theorem kept_none {l : List Ent} {s : Nat} : kept l s = none ↔ ¬ Has l s := by
  unfold kept Has
  rw [Option.map_eq_none_iff, List.find?_eq_none]
  constructor
  · rintro h ⟨v, hv⟩
    have := h _ hv
    simp at this
  · intro h e he
    simp only [decide_eq_true_eq]
    intro hs
    exact h ⟨e.2, by rw [← hs]; exact he⟩
theorem rising_inj {l : List Ent} (h : Rising l) {a b : Ent} (ha : a ∈ l) (hb : b ∈ l) (e : a.1 = b.1) : a = b := by
  obtain ⟨i, hi, rfl⟩ := List.getElem_of_mem ha
  obtain ⟨j, hj, rfl⟩ := List.getElem_of_mem hb
  rcases Nat.lt_trichotomy i j with x | x | x
  · have := rising_get h x hj; omega
  · subst x; rfl
  · have := rising_get h x hi; omega
theorem kept_of {l : List Ent} (h : Rising l) {s : Nat} {v : List UInt8} (hm : (s, v) ∈ l) : kept l s = some v := by
  cases hk : kept l s with
  | none => exact absurd ⟨v, hm⟩ (kept_none.1 hk)
  | some u =>
    have := rising_inj h hm (kept_mem hk) rfl
    rw [(Prod.mk.inj this).2]
theorem mem_from {l : List Ent} (h : Rising l) (s : Nat) (e : Ent) : e ∈ l.drop (below l s) ↔ e ∈ l ∧ s ≤ e.1 := by
  obtain ⟨g1, g2⟩ := below_split h s
  constructor
  · intro he
    obtain ⟨i, hi, rfl⟩ := List.getElem_of_mem he
    rw [List.length_drop] at hi
    rw [List.getElem_drop]
    exact ⟨List.getElem_mem _, g2 _ (by omega) (by omega)⟩
  · rintro ⟨he, hs⟩
    obtain ⟨i, hi, rfl⟩ := List.getElem_of_mem he
    have hb : below l s ≤ i := by
      rcases Nat.lt_or_ge i (below l s) with x | x
      · have := g1 i hi x; omega
      · exact x
    refine List.mem_of_getElem? (i := i - below l s) ?_
    rw [List.getElem?_drop, show below l s + (i - below l s) = i by omega, List.getElem?_eq_getElem hi]
theorem rising_from {l : List Ent} (h : Rising l) (s : Nat) : Rising (l.drop (below l s)) := List.Pairwise.sublist (List.drop_sublist _ _) h
theorem has_from {l : List Ent} (h : Rising l) (s t : Nat) : Has (l.drop (below l s)) t ↔ Has l t ∧ s ≤ t := by
  constructor
  · rintro ⟨v, hv⟩
    have := (mem_from h s _).1 hv
    exact ⟨⟨v, this.1⟩, this.2⟩
  · rintro ⟨⟨v, hv⟩, hs⟩
    exact ⟨v, (mem_from h s _).2 ⟨hv, hs⟩⟩

theorem run_spec : ∀ {l : List Ent} {s : Nat}, Rising l → (∀ e ∈ l, s ≤ e.1) → s ≤ run l s ∧ (∀ t, s ≤ t → t < run l s → Has l t) ∧ ¬ Has l (run l s)
  | [], s, _, _ => ⟨Nat.le_refl _, fun t h1 h2 => by simp only [run] at h2; omega, fun ⟨v, h⟩ => by simp at h⟩
  | e :: l, s, h, h1 => by
    have hr : Rising l := (List.pairwise_cons.1 h).2
    have he := (List.pairwise_cons.1 h).1
    unfold run
    split
    · rename_i hs
      obtain ⟨a1, a2, a3⟩ := run_spec (l := l) (s := s + 1) hr (fun x hx => by have := he x hx; omega)
      refine ⟨by omega, fun t h2 h3 => ?_, fun ⟨v, hv⟩ => ?_⟩
      · by_cases ht : t = s
        · exact ⟨e.2, by rw [ht, ← hs]; exact List.mem_cons_self⟩
        · obtain ⟨v, hv⟩ := a2 t (by omega) h3
          exact ⟨v, List.mem_cons_of_mem _ hv⟩
      · rcases List.mem_cons.1 hv with hv | hv
        · have := congrArg Prod.fst hv
          simp only at this
          omega
        · exact a3 ⟨v, hv⟩
    · rename_i hs
      refine ⟨Nat.le_refl _, fun t h2 h3 => by omega, fun ⟨v, hv⟩ => ?_⟩
      rcases List.mem_cons.1 hv with hv | hv
      · exact hs (by rw [← hv])
      · have := he _ hv
        have := h1 e List.mem_cons_self
        simp only at *
        omega

/-- The first slot above the applied one that is not there. -/
def IsNext (g : Lg) (t : Nat) : Prop := g.ap < t ∧ (∀ s, g.ap < s → s < t → Has g.l s) ∧ ¬ Has g.l t
theorem next_is {g : Lg} (h : Ok g) : IsNext g (next g) := by
  obtain ⟨h1, h2, h3⟩ := run_spec (rising_from h.rising (g.ap + 1)) (s := g.ap + 1) (fun e he => ((mem_from h.rising _ e).1 he).2)
  refine ⟨h1, fun s a b => ((has_from h.rising _ _).1 (h2 s a b)).1, fun hh => h3 ((has_from h.rising _ _).2 ⟨hh, h1⟩)⟩
theorem IsNext.unique {g : Lg} {t u : Nat} (h : IsNext g t) (k : IsNext g u) : t = u := by
  obtain ⟨h1, h2, h3⟩ := h
  obtain ⟨k1, k2, k3⟩ := k
  rcases Nat.lt_trichotomy t u with x | x | x
  · exact absurd (k2 t h1 x) h3
  · exact x
  · exact absurd (h2 u k1 x) k3
theorem IsNext.ahead {g : Lg} {t a : Nat} (h : IsNext g t) (h1 : g.ap ≤ a) (h2 : a < t) : IsNext { g with ap := a } t :=
  ⟨h2, fun s x y => h.2.1 s (by simp only at x; omega) y, h.2.2⟩

theorem apply_next {g : Lg} {t : Nat} (hr : Rising g.l) (h : IsNext g t) : (t = g.ap + 1 → (apply g).1 = none) ∧ (g.ap + 1 < t → ∃ e, (apply g).1 = some e ∧ (apply g).2 = { g with ap := g.ap + 1 }) := by
  constructor
  · intro e
    unfold apply
    rw [kept_none.2 (e ▸ h.2.2)]
  · intro x
    obtain ⟨v, hv⟩ := h.2.1 (g.ap + 1) (by omega) x
    unfold apply
    rw [kept_of hr hv]
    exact ⟨_, rfl, rfl⟩
theorem rest_next : ∀ (k : Nat) {g : Lg} {t : Nat}, Rising g.l → IsNext g t → (RM.rest k g).1.length = min k (t - g.ap - 1) ∧ (RM.rest k g).2 = { g with ap := g.ap + min k (t - g.ap - 1) }
  | 0, g, t, _, _ => by simp [RM.rest]
  | k + 1, g, t, hr, h => by
    obtain ⟨h1, h2⟩ := apply_next hr h
    have h3 := h.1
    by_cases ht : t = g.ap + 1
    · rw [rest_none (h1 ht)]
      have : min (k + 1) (t - g.ap - 1) = 0 := by omega
      rw [this]
      exact ⟨rfl, rfl⟩
    · obtain ⟨e, he, h4⟩ := h2 (by omega)
      rw [rest_some he, h4]
      obtain ⟨a1, a2⟩ := rest_next k (g := { g with ap := g.ap + 1 }) hr (h.ahead (Nat.le_succ _) (by omega))
      have : min (k + 1) (t - g.ap - 1) = min k (t - (g.ap + 1) - 1) + 1 := by omega
      rw [this]
      refine ⟨by simp only [List.length_cons, a1], ?_⟩
      rw [a2]
      simp only [Lg.mk.injEq, and_true]
      omega

theorem gaps_mem : ∀ {l : List Ent} {s : Nat}, Rising l → (∀ e ∈ l, s ≤ e.1) → ∀ t, t ∈ gaps l s ↔ s ≤ t ∧ (∃ e ∈ l, t < e.1) ∧ ¬ Has l t
  | [], s, _, _, t => by simp [gaps]
  | e :: l, s, h, h1, t => by
    have hr : Rising l := (List.pairwise_cons.1 h).2
    have he := (List.pairwise_cons.1 h).1
    have hs := h1 e List.mem_cons_self
    have ih := gaps_mem (l := l) (s := e.1 + 1) hr (fun x hx => he x hx) t
    unfold gaps
    rw [List.mem_append, ih, List.mem_range'_1]
    constructor
    · rintro (⟨a, b⟩ | ⟨a, ⟨x, hx, b⟩, c⟩)
      · refine ⟨a, ⟨e, List.mem_cons_self, by omega⟩, fun ⟨v, hv⟩ => ?_⟩
        rcases List.mem_cons.1 hv with hv | hv
        · have := congrArg Prod.fst hv
          simp only at this
          omega
        · have := he _ hv
          simp only at this
          omega
      · refine ⟨by omega, ⟨x, List.mem_cons_of_mem _ hx, b⟩, fun ⟨v, hv⟩ => ?_⟩
        rcases List.mem_cons.1 hv with hv | hv
        · have := congrArg Prod.fst hv
          simp only at this
          omega
        · exact c ⟨v, hv⟩
    · rintro ⟨a, ⟨x, hx, b⟩, c⟩
      rcases Nat.lt_trichotomy t e.1 with y | y | y
      · exact .inl ⟨a, by omega⟩
      · exact absurd ⟨e.2, by rw [y]; exact List.mem_cons_self⟩ c
      · refine .inr ⟨y, ?_, fun ⟨v, hv⟩ => c ⟨v, List.mem_cons_of_mem _ hv⟩⟩
        rcases List.mem_cons.1 hx with hx | hx
        · subst hx; omega
        · exact ⟨x, hx, b⟩
theorem gaps_rise : ∀ {l : List Ent} {s : Nat}, Rising l → (∀ e ∈ l, s ≤ e.1) → (gaps l s).Pairwise (· < ·)
  | [], s, _, _ => List.Pairwise.nil
  | e :: l, s, h, h1 => by
    have hr : Rising l := (List.pairwise_cons.1 h).2
    have he := (List.pairwise_cons.1 h).1
    have hs := h1 e List.mem_cons_self
    unfold gaps
    rw [List.pairwise_append]
    refine ⟨List.pairwise_lt_range', gaps_rise hr (fun x hx => he x hx), fun a ha b hb => ?_⟩
    rw [List.mem_range'_1] at ha
    have := ((gaps_mem hr (fun x hx => he x hx) b).1 hb).1
    omega
/-- All holes. -/
def gapsOf (g : Lg) : List Nat := gaps (g.l.drop (below g.l (g.ap + 1))) (g.ap + 1)
theorem gapsOf_mem {g : Lg} (h : Rising g.l) (t : Nat) : t ∈ gapsOf g ↔ g.ap < t ∧ (∃ e ∈ g.l, t < e.1) ∧ ¬ Has g.l t := by
  unfold gapsOf
  rw [gaps_mem (rising_from h _) (fun e he => ((mem_from h _ e).1 he).2)]
  constructor
  · rintro ⟨a, ⟨e, he, b⟩, c⟩
    exact ⟨a, ⟨e, ((mem_from h _ e).1 he).1, b⟩, fun x => c ((has_from h _ _).2 ⟨x, a⟩)⟩
  · rintro ⟨a, ⟨e, he, b⟩, c⟩
    exact ⟨a, ⟨e, (mem_from h _ e).2 ⟨he, by omega⟩, b⟩, fun x => c ((has_from h _ _).1 x).1⟩
theorem gapsOf_rise {g : Lg} (h : Rising g.l) : (gapsOf g).Pairwise (· < ·) := gaps_rise (rising_from h _) (fun e he => ((mem_from h _ e).1 he).2)
theorem holes_eq (g : Lg) (most : Int) : holes g most = (gapsOf g).take most.toNat := rfl

theorem train_spec : ∀ (l : List Ent) (s k : Nat), (train l s k).length ≤ k ∧ ∀ i (hi : i < (train l s k).length), (train l s k)[i] ∈ l ∧ (train l s k)[i].1 = s + i
  | [], s, k => by simp [train]
  | e :: l, s, 0 => by simp [train]
  | e :: l, s, k + 1 => by
    by_cases hs : e.1 = s
    · have ht : train (e :: l) s (k + 1) = e :: train l (s + 1) k := by simp [train, hs]
      obtain ⟨a1, a2⟩ := train_spec l (s + 1) k
      rw [ht]
      refine ⟨by simpa using a1, fun i hi => ?_⟩
      match i with
      | 0 => exact ⟨List.mem_cons_self, by simpa using hs⟩
      | i + 1 =>
        obtain ⟨b1, b2⟩ := a2 i (by simpa using hi)
        simp only [List.getElem_cons_succ]
        exact ⟨List.mem_cons_of_mem _ b1, by rw [b2]; omega⟩
    · have ht : train (e :: l) s (k + 1) = [] := by simp [train, hs]
      rw [ht]
      simp
theorem catch_spec (g : Lg) (s : Nat) (most : Int) : (catch_ g s most).length ≤ most.toNat ∧ ∀ i (hi : i < (catch_ g s most).length), (catch_ g s most)[i] ∈ g.l ∧ (catch_ g s most)[i].1 = s + i := by
  obtain ⟨h1, h2⟩ := train_spec (g.l.drop (below g.l s)) s most.toNat
  exact ⟨h1, fun i hi => ⟨List.mem_of_mem_drop (h2 i hi).1, (h2 i hi).2⟩⟩
theorem catch_pos {g : Lg} (h : Rising g.l) {s : Nat} (hs : Has g.l s) {most : Int} (hm : 0 < most) : 0 < (catch_ g s most).length := by
  obtain ⟨v, hv⟩ := hs
  have hk := kept_of h hv
  rw [kept_at h] at hk
  unfold catch_
  cases hq : g.l[below g.l s]? with
  | none => rw [hq] at hk; cases hk
  | some e =>
    rw [hq] at hk
    obtain ⟨hi, he⟩ := List.getElem?_eq_some_iff.1 hq
    have hs : e.1 = s := by
      simp only [Option.bind_some] at hk
      split at hk
      · assumption
      · cases hk
    rw [List.drop_eq_getElem_cons hi, he]
    obtain ⟨k, hk⟩ : ∃ k, most.toNat = k + 1 := ⟨most.toNat - 1, by omega⟩
    rw [hk]
    simp [train, hs]

theorem mem_ins_iff {l : List Ent} {s : Nat} {v : List UInt8} {e : Ent} : e ∈ ins l s v ↔ e ∈ l ∨ e = (s, v) := by
  refine ⟨mem_ins, fun h => ?_⟩
  unfold ins
  rw [List.mem_append, List.mem_cons]
  rcases h with h | h
  · rw [← List.take_append_drop (below l s) l, List.mem_append] at h
    exact h.imp id .inr
  · exact .inr (.inl h)
theorem has_ins {l : List Ent} {s : Nat} {v : List UInt8} {t : Nat} : Has (ins l s v) t ↔ Has l t ∨ t = s := by
  constructor
  · rintro ⟨u, hu⟩
    rcases mem_ins_iff.1 hu with h | h
    · exact .inl ⟨u, h⟩
    · exact .inr (Prod.mk.inj h).1
  · rintro (⟨u, hu⟩ | rfl)
    · exact ⟨u, mem_ins_iff.2 (.inl hu)⟩
    · exact ⟨v, mem_ins_iff.2 (.inr rfl)⟩
theorem learn_old (g : Lg) (s : Nat) (v : List UInt8) {e : Ent} (he : e ∈ g.l) : e ∈ (learn g s v).2.l := by
  unfold learn
  split
  · exact he
  · split
    · exact he
    · split
      · split <;> exact he
      · split
        · exact he
        · split
          · exact he
          · exact mem_ins_iff.2 (.inl he)
theorem learn_has (g : Lg) (s : Nat) (v : List UInt8) {t : Nat} (h : Has g.l t) : Has (learn g s v).2.l t := h.imp fun _ he => learn_old g s v he
theorem learn_ok {g : Lg} {s : Nat} {v : List UInt8} (h : (learn g s v).1 = 0) (hs : g.ap < s) : Has (learn g s v).2.l s := by
  unfold learn at h ⊢
  split at h
  · simp at h
  · rename_i c1
    rw [if_neg c1]
    split at h
    · simp at h
    · rename_i c2
      rw [if_neg c2]
      cases hk : kept g.l s with
      | some u =>
        simp only
        split <;> exact ⟨u, kept_mem hk⟩
      | none =>
        rw [hk] at h
        simp only at h ⊢
        rw [if_neg (by omega)] at h ⊢
        split at h
        · simp at h
        · rename_i c3
          rw [if_neg c3]
          exact has_ins.2 (.inr rfl)
theorem learn_new {g : Lg} {s : Nat} {v : List UInt8} (h1 : ¬ Has g.l s) (h2 : g.ap < s) (h3 : s < 18446744073709551615) (h4 : v.length ≤ 100) (h5 : g.l.length < 4096) : learn g s v = (0, { g with l := ins g.l s v }) := by
  unfold learn
  rw [if_neg (by omega), if_neg (by omega), kept_none.2 h1]
  simp only
  rw [if_neg (by omega), if_neg (by omega)]
theorem learn_mem {g : Lg} {s : Nat} {v : List UInt8} {e : Ent} (h : e ∈ (learn g s v).2.l) : e ∈ g.l ∨ (e = (s, v) ∧ g.ap < s) := by
  unfold learn at h
  split at h
  · exact .inl h
  · split at h
    · exact .inl h
    · split at h
      · split at h <;> exact .inl h
      · split at h
        · exact .inl h
        · split at h
          · exact .inl h
          · rename_i c _
            rcases mem_ins_iff.1 h with h | h
            · exact .inl h
            · exact .inr ⟨h, by omega⟩

theorem top_spec {g : Lg} (h : Rising g.l) : (∀ e ∈ g.l, e.1 ≤ top g) ∧ g.ap ≤ top g ∧ (top g = g.ap ∨ ∃ e ∈ g.l, e.1 = top g) := by
  unfold top
  cases hq : g.l.getLast? with
  | none =>
    rw [List.getLast?_eq_none_iff] at hq
    rw [hq]
    simp
  | some e =>
    have hm : e ∈ g.l := List.mem_of_getLast? hq
    refine ⟨fun x hx => ?_, by simp only; omega, ?_⟩
    · obtain ⟨i, hi, rfl⟩ := List.getElem_of_mem hx
      rw [List.getLast?_eq_getElem?] at hq
      obtain ⟨hj, he⟩ := List.getElem?_eq_some_iff.1 hq
      have : g.l[i].1 ≤ e.1 := by
        rcases Nat.lt_or_ge i (g.l.length - 1) with x | x
        · have := rising_get h x hj
          rw [he] at this
          omega
        · have : i = g.l.length - 1 := by omega
          subst this
          rw [he]
          exact Nat.le_refl _
      simp only
      omega
    · simp only
      rcases Nat.lt_or_ge g.ap e.1 with x | x
      · exact .inr ⟨e, hm, by omega⟩
      · exact .inl (by omega)
end Go.Proofs.Ytnignhfallhblaa.RM
