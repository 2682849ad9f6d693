/- Where the blocks of a striped volume lie, as plain arithmetic. Conditions: as each law names them. -/
namespace Go.Proofs.Ytmbfglblkpipcaa.SM

/-- A block's chunk and place; the block of a place. C: the chunk, W: the width, U: the unit. -/
def wh (C W U x : Nat) : Nat × Nat := (x / (W * C) * W + x % (W * C) / U % W, x % (W * C) / U / W * U + x % (W * C) % U)
def bk (C W U c a : Nat) : Nat := c / W * (W * C) + ((a / U * W + c % W) * U + a % U)

section
variable {C W U x : Nat}

theorem unit_lt {m o : Nat} (hW : 0 < W) (hU : 0 < U) (h : o < W * (U * m)) : o / U / W < m := by
  rw [Nat.div_div_eq_div_mul, Nat.div_lt_iff_lt_mul (Nat.mul_pos hU hW)]
  calc o < W * (U * m) := h
    _ = m * (U * W) := by rw [Nat.mul_comm W, Nat.mul_assoc, Nat.mul_comm m W, ← Nat.mul_assoc, Nat.mul_comm (U * W) m]

theorem bk_wh (hW : 0 < W) (hU : 0 < U) : bk C W U (wh C W U x).1 (wh C W U x).2 = x := by
  unfold bk wh
  simp only []
  have h1 : (x / (W * C) * W + x % (W * C) / U % W) / W = x / (W * C) := by
    rw [Nat.add_comm, Nat.add_mul_div_right _ _ hW, Nat.div_eq_of_lt (Nat.mod_lt _ hW), Nat.zero_add]
  have h2 : (x / (W * C) * W + x % (W * C) / U % W) % W = x % (W * C) / U % W := by
    rw [Nat.add_comm, Nat.add_mul_mod_self_right, Nat.mod_mod]
  have h3 : (x % (W * C) / U / W * U + x % (W * C) % U) / U = x % (W * C) / U / W := by
    rw [Nat.add_comm, Nat.add_mul_div_right _ _ hU, Nat.div_eq_of_lt (Nat.mod_lt _ hU), Nat.zero_add]
  have h4 : (x % (W * C) / U / W * U + x % (W * C) % U) % U = x % (W * C) % U := by
    rw [Nat.add_comm, Nat.add_mul_mod_self_right, Nat.mod_mod]
  rw [h1, h2, h3, h4, Nat.div_add_mod' (x % (W * C) / U) W, Nat.div_add_mod' (x % (W * C)) U, Nat.div_add_mod']

theorem wh_at_lt {m : Nat} (hW : 0 < W) (hU : 0 < U) (hC : C = U * m) (hm : 0 < m) : (wh C W U x).2 < C := by
  unfold wh
  simp only []
  have hp : 0 < W * C := by rw [hC]; exact Nat.mul_pos hW (Nat.mul_pos hU hm)
  have h1 : x % (W * C) / U / W < m := unit_lt hW hU (by rw [← hC]; exact Nat.mod_lt _ hp)
  have h2 := Nat.mod_lt (x % (W * C)) hU
  calc x % (W * C) / U / W * U + x % (W * C) % U < x % (W * C) / U / W * U + U := Nat.add_lt_add_left h2 _
    _ = (x % (W * C) / U / W + 1) * U := by rw [Nat.add_mul, Nat.one_mul]
    _ ≤ m * U := Nat.mul_le_mul_right _ h1
    _ = C := by rw [hC, Nat.mul_comm]

theorem wh_chunk_lt {q : Nat} (hW : 0 < W) (hx : x < q * (W * C)) : (wh C W U x).1 < q * W := by
  unfold wh
  simp only []
  have h1 : x / (W * C) < q := by
    rw [Nat.div_lt_iff_lt_mul]
    · exact hx
    · rcases Nat.eq_zero_or_pos (W * C) with h | h
      · rw [h, Nat.mul_zero] at hx; omega
      · exact h
  have h2 := Nat.mod_lt (x % (W * C) / U) hW
  calc x / (W * C) * W + x % (W * C) / U % W < x / (W * C) * W + W := Nat.add_lt_add_left h2 _
    _ = (x / (W * C) + 1) * W := by rw [Nat.add_mul, Nat.one_mul]
    _ ≤ q * W := Nat.mul_le_mul_right _ h1

theorem wh_at_mod (_hU : 0 < U) : (wh C W U x).2 % U = x % (W * C) % U := by
  unfold wh
  simp only []
  rw [Nat.add_comm, Nat.add_mul_mod_self_right, Nat.mod_mod]

/-- The next ones of a unit lie behind one another. -/
theorem wh_next {m j : Nat} (hU : 0 < U) (hW : 0 < W) (hm : 0 < m) (hC : C = U * m) (hj : (wh C W U x).2 % U + j < U) : wh C W U (x + j) = ((wh C W U x).1, (wh C W U x).2 + j) := by
  rw [wh_at_mod hU] at hj
  have hp : 0 < W * C := by rw [hC]; exact Nat.mul_pos hW (Nat.mul_pos hU hm)
  have hWC : W * C = U * (W * m) := by rw [hC, Nat.mul_left_comm]
  obtain ⟨o, ho⟩ : ∃ o, o = x % (W * C) := ⟨_, rfl⟩
  have hol : o < W * C := by rw [ho]; exact Nat.mod_lt _ hp
  have hx : x = x / (W * C) * (W * C) + o := by rw [ho]; exact (Nat.div_add_mod' x (W * C)).symm
  rw [← ho] at hj
  have hou : o / U < W * m := by rw [Nat.div_lt_iff_lt_mul hU, Nat.mul_comm (W * m), ← hWC]; exact hol
  have hoj : o + j < W * C := by
    have h1 := Nat.div_add_mod o U
    rw [hWC]
    calc o + j = U * (o / U) + (o % U + j) := by omega
      _ < U * (o / U) + U := Nat.add_lt_add_left hj _
      _ = U * (o / U + 1) := by rw [Nat.mul_add, Nat.mul_one]
      _ ≤ U * (W * m) := Nat.mul_le_mul_left _ hou
  have e1 : (x + j) % (W * C) = o + j := by
    rw [hx, Nat.add_assoc, Nat.add_comm, Nat.add_mul_mod_self_right, Nat.mod_eq_of_lt hoj]
  have e2 : (x + j) / (W * C) = x / (W * C) := by
    have : (x / (W * C) * (W * C) + o + j) / (W * C) = x / (W * C) := by
      rw [Nat.add_assoc, Nat.add_comm, Nat.add_mul_div_right _ _ hp, Nat.div_eq_of_lt hoj, Nat.zero_add]
    rw [← hx] at this
    exact this
  have e3 : (o + j) / U = o / U := by
    have h1 := Nat.div_add_mod o U
    have : o + j = o % U + j + U * (o / U) := by omega
    rw [this, Nat.add_mul_div_left _ _ hU, Nat.div_eq_of_lt hj, Nat.zero_add]
  have e4 : (o + j) % U = o % U + j := by
    have h1 := Nat.div_add_mod o U
    have : o + j = o % U + j + U * (o / U) := by omega
    rw [this, Nat.add_mul_mod_self_left, Nat.mod_eq_of_lt hj]
  unfold wh
  rw [e1, e2, ← ho, e3, e4]
  simp only [Nat.add_assoc]
end

/-- A piece of a request. -/
structure Pc where
  c : Nat
  a : Nat
  f : Nat
  n : Nat
deriving DecidableEq, Inhabited

def sumN (l : List Pc) : Nat := (l.map Pc.n).sum
theorem sumN_append (l m : List Pc) : sumN (l ++ m) = sumN l + sumN m := by simp [sumN]
theorem sumN_one (p : Pc) : sumN [p] = p.n := by simp [sumN]

/-- One piece, where it lies. -/
structure Lies (C W U lba : Nat) (p : Pc) : Prop where
  pos : 1 ≤ p.n
  lie : ∀ j, j < p.n → wh C W U (lba + p.f + j) = (p.c, p.a + j)

/-- The pieces are the blocks from lba on, k of them, in their order. -/
structure Cov (C W U lba : Nat) (l : List Pc) (k : Nat) : Prop where
  from_ : ∀ i (h : i < l.length), l[i].f = sumN (l.take i)
  lies : ∀ p ∈ l, Lies C W U lba p
  all : sumN l = k
/-- No two beside one another could be one. -/
def Few (l : List Pc) : Prop := ∀ i (h : i + 1 < l.length), ¬ (l[i].c = l[i + 1].c ∧ l[i].a + l[i].n = l[i + 1].a)

theorem Cov.nil (C W U lba : Nat) : Cov C W U lba [] 0 := ⟨fun i h => by simp at h, fun p h => by simp at h, rfl⟩
theorem Few.nil : Few [] := fun i h => by simp at h

theorem Cov.push {C W U lba k : Nat} {l : List Pc} (h : Cov C W U lba l k) {p : Pc} (hf : p.f = k) (hp : Lies C W U lba p) : Cov C W U lba (l ++ [p]) (k + p.n) := by
  refine ⟨fun i hi => ?_, fun q hq => ?_, by rw [sumN_append, sumN_one, h.all]⟩
  · by_cases hil : i < l.length
    · rw [List.getElem_append_left hil, h.from_ i hil, List.take_append_of_le_length (Nat.le_of_lt hil)]
    · have e : i = l.length := by simp at hi; omega
      subst e
      rw [List.getElem_append_right (Nat.le_refl _)]
      simp [h.all, hf]
  · rcases List.mem_append.1 hq with hq | hq
    · exact h.lies q hq
    · simp at hq
      subst hq
      exact hp

theorem Few.push {l : List Pc} (h : Few l) {p : Pc} (hp : ∀ q, l.getLast? = some q → ¬ (q.c = p.c ∧ q.a + q.n = p.a)) : Few (l ++ [p]) := by
  intro i hi
  have hl : l.length + 1 = (l ++ [p]).length := by simp
  by_cases hil : i + 1 < l.length
  · rw [List.getElem_append_left hil, List.getElem_append_left (by omega)]
    exact h i hil
  · have hil' : i < l.length := by omega
    rw [List.getElem_append_left hil', List.getElem_append_right (by omega)]
    have e : i + 1 - l.length = 0 := by omega
    simp only [e, List.getElem_cons_zero]
    refine hp _ ?_
    rw [List.getLast?_eq_getElem?]
    have : l.length - 1 = i := by omega
    rw [this, List.getElem?_eq_getElem hil']

/-- The last one gets m more. -/
theorem Cov.more {C W U lba k m : Nat} {l : List Pc} {p : Pc} (h : Cov C W U lba (l ++ [p]) k) (hm : ∀ j, j < m → wh C W U (lba + k + j) = (p.c, p.a + p.n + j)) : Cov C W U lba (l ++ [{ p with n := p.n + m }]) (k + m) := by
  have hk : sumN l + p.n = k := by have := h.all; rw [sumN_append, sumN_one] at this; exact this
  have hpf : p.f = sumN l := by
    have := h.from_ l.length (by simp)
    simpa using this
  refine ⟨fun i hi => ?_, fun q hq => ?_, by rw [sumN_append, sumN_one]; simp only []; omega⟩
  · by_cases hil : i < l.length
    · have := h.from_ i (by simp; omega)
      rw [List.getElem_append_left hil, List.take_append_of_le_length (Nat.le_of_lt hil)] at this ⊢
      exact this
    · have e : i = l.length := by simp at hi; omega
      subst e
      rw [List.getElem_append_right (Nat.le_refl _)]
      simp [hpf]
  · rcases List.mem_append.1 hq with hq | hq
    · exact h.lies q (by simp [hq])
    · simp at hq
      subst hq
      have hp := h.lies p (by simp)
      refine ⟨by have := hp.pos; simp only []; omega, fun j hj => ?_⟩
      simp only [] at hj ⊢
      by_cases hjp : j < p.n
      · exact hp.lie j hjp
      · have := hm (j - p.n) (by omega)
        rw [show lba + k + (j - p.n) = lba + p.f + j by omega, show p.a + p.n + (j - p.n) = p.a + j by omega] at this
        exact this
theorem Few.more {l : List Pc} {p : Pc} (h : Few (l ++ [p])) (m : Nat) : Few (l ++ [{ p with n := p.n + m }]) := by
  intro i hi
  have hi' : i + 1 < (l ++ [p]).length := by simpa using hi
  have := h i hi'
  simp only [List.length_append, List.length_cons, List.length_nil] at hi'
  by_cases hil : i + 1 < l.length
  · rw [List.getElem_append_left hil, List.getElem_append_left (by omega)] at this ⊢
    exact this
  · have hil' : i < l.length := by omega
    rw [List.getElem_append_left hil', List.getElem_append_right (by omega)] at this ⊢
    have e : i + 1 - l.length = 0 := by omega
    simp only [e, List.getElem_cons_zero] at this ⊢
    exact this

/-- What a step of Split adds lies where it says. -/
theorem step_lies {C W U m lba k n : Nat} (hU : 0 < U) (hW : 0 < W) (hm : 0 < m) (hC : C = U * m) (hn : n ≤ U - (wh C W U (lba + k)).2 % U) : ∀ j, j < n → wh C W U (lba + k + j) = ((wh C W U (lba + k)).1, (wh C W U (lba + k)).2 + j) :=
  fun _ hj => wh_next hU hW hm hC (by have := Nat.mod_lt (wh C W U (lba + k)).2 hU; omega)

end Go.Proofs.Ytmbfglblkpipcaa.SM
