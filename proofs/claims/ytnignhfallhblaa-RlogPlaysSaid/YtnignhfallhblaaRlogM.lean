/- A log as plain data: the applied slot, and entries whose slots rise. Conditions: none. -/
namespace Go.Proofs.Ytnignhfallhblaa.RM

abbrev Ent := Nat × List UInt8
structure Lg where
  ap : Nat
  l : List Ent

/-- Slots rise. -/
def Rising (l : List Ent) : Prop := l.Pairwise fun a b => a.1 < b.1
/-- How many entries lie below a slot. -/
def below (l : List Ent) (s : Nat) : Nat := (l.filter fun e => decide (e.1 < s)).length
def kept (l : List Ent) (s : Nat) : Option (List UInt8) := (l.find? fun e => decide (e.1 = s)).map (·.2)

theorem rising_get {l : List Ent} (h : Rising l) {i j : Nat} (hij : i < j) (hj : j < l.length) : l[i].1 < l[j].1 := List.pairwise_iff_getElem.1 h i j (by omega) hj hij

/-- Entries ahead of below's place lie below, the others do not. -/
theorem below_split : ∀ {l : List Ent}, Rising l → ∀ s, (∀ i (hi : i < l.length), i < below l s → l[i].1 < s) ∧ (∀ i (hi : i < l.length), below l s ≤ i → s ≤ l[i].1)
  | [], _, s => ⟨fun i hi => by simp at hi, fun i hi => by simp at hi⟩
  | e :: l, h, s => by
    have hr : Rising l := (List.pairwise_cons.1 h).2
    have he := (List.pairwise_cons.1 h).1
    obtain ⟨h1, h2⟩ := below_split hr s
    by_cases hs : e.1 < s
    · have eb : below (e :: l) s = below l s + 1 := by simp [below, hs]
      refine ⟨fun i hi hb => ?_, fun i hi hb => ?_⟩
      · match i with
        | 0 => exact hs
        | i + 1 => exact h1 i (by simpa using hi) (by omega)
      · match i with
        | 0 => omega
        | i + 1 => exact h2 i (by simpa using hi) (by omega)
    · have all : ∀ x ∈ l, ¬ x.1 < s := fun x hx => by have := he x hx; omega
      have eb : below (e :: l) s = 0 := by
        simp only [below, List.filter_cons, hs, decide_false]
        have : l.filter (fun e => decide (e.1 < s)) = [] := List.filter_eq_nil_iff.2 fun x hx => by simpa using all x hx
        simp [this]
      refine ⟨fun i hi hb => by omega, fun i hi _ => ?_⟩
      match i with
      | 0 => simpa using hs
      | i + 1 =>
        have := he _ (List.getElem_mem (show i < l.length by simpa using hi))
        simp only [List.getElem_cons_succ]
        omega
theorem below_le (l : List Ent) (s : Nat) : below l s ≤ l.length := List.length_filter_le _ _

/-- A place that parts the entries is below's. -/
theorem below_unique {l : List Ent} (h : Rising l) (s i : Nat) (hi : i ≤ l.length) (h1 : ∀ j (hj : j < l.length), j < i → l[j].1 < s) (h2 : ∀ j (hj : j < l.length), i ≤ j → s ≤ l[j].1) : i = below l s := by
  obtain ⟨g1, g2⟩ := below_split h s
  have hb := below_le l s
  rcases Nat.lt_trichotomy i (below l s) with x | x | x
  · have a := g1 i (by omega) x
    have b := h2 i (by omega) (Nat.le_refl _)
    omega
  · exact x
  · have a := h1 (below l s) (by omega) x
    have b := g2 (below l s) (by omega) (Nat.le_refl _)
    omega

/-- Whether a slot is kept is seen at its place. -/
theorem kept_at {l : List Ent} (h : Rising l) (s : Nat) : kept l s = (l[below l s]?).bind fun e => if e.1 = s then some e.2 else none := by
  obtain ⟨g1, g2⟩ := below_split h s
  unfold kept
  cases hf : l.find? fun e => decide (e.1 = s) with
  | none =>
    have hn := List.find?_eq_none.1 hf
    cases hb : l[below l s]? with
    | none => rfl
    | some e =>
      have := hn e (List.mem_of_getElem? hb)
      simp at this
      simp [this]
  | some e =>
    obtain ⟨he, hm⟩ := And.intro (List.find?_some hf) (List.mem_of_find?_eq_some hf)
    simp at he
    obtain ⟨j, hj, hje⟩ := List.getElem_of_mem hm
    have hjb : j = below l s := by
      rcases Nat.lt_trichotomy j (below l s) with x | x | x
      · have := g1 j hj x; rw [hje] at this; omega
      · exact x
      · have a := g2 (below l s) (by omega) (Nat.le_refl _)
        have b := rising_get h x hj
        rw [hje] at b
        omega
    subst hjb
    rw [List.getElem?_eq_getElem hj, hje]
    simp [he]

def ins (l : List Ent) (s : Nat) (v : List UInt8) : List Ent := l.take (below l s) ++ (s, v) :: l.drop (below l s)
/-- Learn: the answer, the log behind it. -/
def learn (g : Lg) (s : Nat) (v : List UInt8) : Nat × Lg :=
  if s = 0 ∨ s = 18446744073709551615 then (2, g) else if 100 < v.length then (3, g) else
  match kept g.l s with
  | some u => if u = v then (0, g) else (120, g)
  | none => if s ≤ g.ap then (0, g) else if 4096 ≤ g.l.length then (5, g) else (0, { g with l := ins g.l s v })
/-- Apply: the entry, the log behind it. -/
def apply (g : Lg) : Option Ent × Lg :=
  match kept g.l (g.ap + 1) with
  | some v => (some (g.ap + 1, v), { g with ap := g.ap + 1 })
  | none => (none, g)

structure Ok (g : Lg) : Prop where
  rising : Rising g.l
  slots : ∀ e ∈ g.l, 0 < e.1 ∧ e.1 < 18446744073709551615
  vals : ∀ e ∈ g.l, e.2.length ≤ 100
  few : g.l.length ≤ 4096
  ap : g.ap < 18446744073709551615

theorem ins_rising {l : List Ent} (h : Rising l) {s : Nat} (v : List UInt8) (hk : kept l s = none) : Rising (ins l s v) := by
  obtain ⟨g1, g2⟩ := below_split h s
  have hb := below_le l s
  have hne : ∀ i (hi : i < l.length), below l s ≤ i → s < l[i].1 := fun i hi hib => by
    have h1 := g2 i hi hib
    rcases Nat.lt_or_eq_of_le h1 with x | x
    · exact x
    · exfalso
      have := List.find?_eq_none.1 (show l.find? (fun e => decide (e.1 = s)) = none by simpa [kept] using hk) l[i] (List.getElem_mem hi)
      simp at this
      omega
  unfold ins Rising
  rw [List.pairwise_append]
  refine ⟨h.sublist (List.take_sublist _ _), ?_, fun a ha b hb' => ?_⟩
  · rw [List.pairwise_cons]
    refine ⟨fun a ha => ?_, h.sublist (List.drop_sublist _ _)⟩
    obtain ⟨i, hi, rfl⟩ := List.getElem_of_mem ha
    rw [List.getElem_drop]
    exact hne _ _ (by omega)
  · obtain ⟨i, hi, rfl⟩ := List.getElem_of_mem ha
    rw [List.length_take] at hi
    rw [List.getElem_take]
    have h1 := g1 i (by omega) (by omega)
    rcases List.mem_cons.1 hb' with rfl | hb'
    · exact h1
    · obtain ⟨j, hj, rfl⟩ := List.getElem_of_mem hb'
      rw [List.getElem_drop]
      have := hne (below l s + j) (by rw [List.length_drop] at hj; omega) (by omega)
      omega

theorem mem_ins {l : List Ent} {s : Nat} {v : List UInt8} {e : Ent} (h : e ∈ ins l s v) : e ∈ l ∨ e = (s, v) := by
  unfold ins at h
  rcases List.mem_append.1 h with h | h
  · exact .inl (List.mem_of_mem_take h)
  · rcases List.mem_cons.1 h with h | h
    · exact .inr h
    · exact .inl (List.mem_of_mem_drop h)
theorem ins_length (l : List Ent) (s : Nat) (v : List UInt8) : (ins l s v).length = l.length + 1 := by
  have := below_le l s
  simp [ins]
  omega

theorem Ok.learn {g : Lg} (h : Ok g) (s : Nat) (v : List UInt8) (hs : s < 18446744073709551616) : Ok (learn g s v).2 := by
  unfold RM.learn
  split
  · exact h
  · split
    · exact h
    · cases hk : kept g.l s with
      | some u => simp only []; split <;> exact h
      | none =>
        simp only []
        split
        · exact h
        · split
          · exact h
          · refine ⟨ins_rising h.rising v hk, fun e he => ?_, fun e he => ?_, by simp only []; rw [ins_length]; omega, h.ap⟩
            · rcases mem_ins he with he | rfl
              · exact h.slots e he
              · simp only []; omega
            · rcases mem_ins he with he | rfl
              · exact h.vals e he
              · simp only []; omega
end Go.Proofs.Ytnignhfallhblaa.RM
