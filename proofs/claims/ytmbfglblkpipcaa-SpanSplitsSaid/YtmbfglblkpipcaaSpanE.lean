/- How many of a striped request's blocks a chunk gets; and that there is one way alone to cut it. Conditions: as each law names them. -/
import Derived.Test.YtmbfglblkpipcaaSpanM
namespace Go.Proofs.Ytmbfglblkpipcaa.SM

/-- The blocks of chunk c among the pieces. -/
def hasN (l : List Pc) (c : Nat) : Nat := (l.map fun p => if p.c = c then p.n else 0).sum
theorem hasN_append (l m : List Pc) (c : Nat) : hasN (l ++ m) c = hasN l c + hasN m c := by simp [hasN]
theorem hasN_one (p : Pc) (c : Nat) : hasN [p] c = if p.c = c then p.n else 0 := by simp [hasN]

/-- How many of the first t blocks from lba on are on chunk c. -/
def cnt (C W U lba c : Nat) : Nat → Nat
  | 0 => 0
  | t + 1 => cnt C W U lba c t + if (wh C W U (lba + t)).1 = c then 1 else 0

theorem cnt_piece {C W U lba c : Nat} {p : Pc} (t : Nat) (h : ∀ j, j < p.n → wh C W U (lba + t + j) = (p.c, p.a + j)) : ∀ n, n ≤ p.n → cnt C W U lba c (t + n) = cnt C W U lba c t + if p.c = c then n else 0
  | 0, _ => by simp
  | n + 1, hn => by
    have ih := cnt_piece (c := c) t h n (by omega)
    rw [← Nat.add_assoc, cnt, ih, ← Nat.add_assoc, h n (by omega)]
    split <;> omega

theorem hasN_take {C W U lba k : Nat} {l : List Pc} (h : Cov C W U lba l k) (c : Nat) : ∀ i, i ≤ l.length → hasN (l.take i) c = cnt C W U lba c (sumN (l.take i))
  | 0, _ => by simp [hasN, sumN, cnt]
  | i + 1, hi => by
    have ih := hasN_take h c i (by omega)
    have e : l.take (i + 1) = l.take i ++ [l[i]] := by rw [List.take_add_one, List.getElem?_eq_getElem (by omega)]; rfl
    rw [e, hasN_append, hasN_one, sumN_append, sumN_one, ih]
    have hf := h.from_ i (by omega)
    have hp := h.lies l[i] (List.getElem_mem _)
    rw [cnt_piece (p := l[i]) (sumN (l.take i)) (fun j hj => by rw [← hf]; exact hp.lie j hj) l[i].n (Nat.le_refl _)]

theorem hasN_cov {C W U lba k : Nat} {l : List Pc} (h : Cov C W U lba l k) (c : Nat) : hasN l c = cnt C W U lba c k := by
  have := hasN_take h c l.length (Nat.le_refl _)
  rwa [List.take_length, h.all] at this

/-- Of whole rounds each chunk has as much. -/
theorem cnt_round {C W U c first k : Nat} (hU : 0 < U) (hc : c < W) (hk : (first + k) * (U * W) ≤ W * C) : ∀ t, t ≤ k * (U * W) → cnt C W U (first * (U * W)) c t = t / (U * W) * U + min U (t % (U * W) - c * U)
  | 0, _ => by simp [cnt]
  | t + 1, ht => by
    have ih := cnt_round hU hc hk t (by omega)
    have hW : 0 < W := by omega
    have hp : 0 < U * W := Nat.mul_pos hU hW
    rw [cnt, ih]
    obtain ⟨q, r, hq, hr, ht'⟩ : ∃ q r, q = t / (U * W) ∧ r = t % (U * W) ∧ t = q * (U * W) + r := ⟨_, _, rfl, rfl, (Nat.div_add_mod' t (U * W)).symm⟩
    have hrl : r < U * W := by rw [hr]; exact Nat.mod_lt _ hp
    have hlt : first * (U * W) + t < W * C := by rw [Nat.add_mul] at hk; omega
    have e1 : (wh C W U (first * (U * W) + t)).1 = r / U := by
      unfold wh
      simp only []
      rw [Nat.div_eq_of_lt hlt, Nat.mod_eq_of_lt hlt, Nat.zero_mul, Nat.zero_add, ht', ← Nat.add_assoc, ← Nat.add_mul, Nat.add_comm, Nat.mul_comm U W, ← Nat.mul_assoc, Nat.add_mul_div_right _ _ hU, Nat.add_mul_mod_self_right]
      exact Nat.mod_eq_of_lt (by rw [Nat.div_lt_iff_lt_mul hU, Nat.mul_comm]; exact hrl)
    rw [e1, ← hq, ← hr]
    -- where the next one stands
    by_cases hlast : r + 1 = U * W
    · have e2 : (t + 1) / (U * W) = q + 1 := by rw [ht', Nat.add_assoc, hlast, ← Nat.succ_mul]; exact Nat.mul_div_cancel _ hp
      have e3 : (t + 1) % (U * W) = 0 := by rw [ht', Nat.add_assoc, hlast, ← Nat.succ_mul]; exact Nat.mul_mod_left _ _
      rw [e2, e3]
      have hcU : c * U + U ≤ U * W := by rw [Nat.mul_comm U W, ← Nat.succ_mul]; exact Nat.mul_le_mul_right _ hc
      have hmul : (q + 1) * U = q * U + U := by rw [Nat.add_mul, Nat.one_mul]
      rw [hmul, Nat.zero_sub, Nat.min_eq_right (Nat.zero_le U)]
      by_cases hcr : r / U = c
      · rw [if_pos hcr]
        have h1 := Nat.div_add_mod r U
        rw [hcr, Nat.mul_comm U c] at h1
        have h2 := Nat.mod_lt r hU
        omega
      · rw [if_neg hcr]
        have h3 : c * U + U ≤ r := by
          have h4 : c + 1 ≤ W - 1 + 0 ∨ c = W - 1 := by omega
          rcases h4 with h4 | h4
          · have : (c + 1 + 1) * U ≤ W * U := Nat.mul_le_mul_right _ (by omega)
            rw [Nat.add_mul, Nat.add_mul, Nat.one_mul, Nat.mul_comm W U] at this
            omega
          · exfalso
            apply hcr
            have h5 : r = U * (W - 1) + (U - 1) := by
              have : U * W = U * (W - 1) + U := by rw [← Nat.mul_succ]; congr 1; omega
              omega
            rw [h5, Nat.mul_comm, Nat.add_comm, Nat.add_mul_div_right _ _ hU, Nat.div_eq_of_lt (by omega), Nat.zero_add, h4]
        omega
    · have hr1 : r + 1 < U * W := by omega
      have e2 : (t + 1) / (U * W) = q := by rw [ht', Nat.add_assoc, Nat.add_comm, Nat.add_mul_div_right _ _ hp, Nat.div_eq_of_lt hr1, Nat.zero_add]
      have e3 : (t + 1) % (U * W) = r + 1 := by rw [ht', Nat.add_assoc, Nat.add_comm, Nat.add_mul_mod_self_right, Nat.mod_eq_of_lt hr1]
      rw [e2, e3]
      have h1 := Nat.div_add_mod r U
      have h2 := Nat.mod_lt r hU
      by_cases hcr : r / U = c
      · rw [if_pos hcr]
        rw [hcr, Nat.mul_comm U c] at h1
        omega
      · rw [if_neg hcr]
        rcases Nat.lt_or_gt_of_ne hcr with h | h
        · have : (r / U + 1) * U ≤ c * U := Nat.mul_le_mul_right _ h
          rw [Nat.add_mul, Nat.one_mul, Nat.mul_comm (r / U) U] at this
          omega
        · have : (c + 1) * U ≤ r / U * U := Nat.mul_le_mul_right _ h
          rw [Nat.add_mul, Nat.one_mul, Nat.mul_comm (r / U) U] at this
          omega

theorem cnt_even {C W U c first k : Nat} (hU : 0 < U) (hc : c < W) (hk : (first + k) * (U * W) ≤ W * C) : cnt C W U (first * (U * W)) c (k * (U * W)) = k * U := by
  have hp : 0 < U * W := Nat.mul_pos hU (by omega)
  rw [cnt_round hU hc hk _ (Nat.le_refl _), Nat.mul_div_cancel _ hp, Nat.mul_mod_left, Nat.zero_sub, Nat.min_eq_right (Nat.zero_le U), Nat.add_zero]

theorem sumN_take_succ (l : List Pc) (i : Nat) (h : i < l.length) : sumN (l.take (i + 1)) = sumN (l.take i) + l[i].n := by
  rw [List.take_add_one, List.getElem?_eq_getElem h, Option.toList_some, sumN_append, sumN_one]
theorem sumN_take_le (l : List Pc) (i : Nat) : sumN (l.take i) ≤ sumN l := by
  have : sumN l = sumN (l.take i) + sumN (l.drop i) := by rw [← sumN_append, List.take_append_drop]
  omega

/-- A piece of one cannot be shorter than the other's. -/
theorem not_shorter {C W U lba k : Nat} {l m : List Pc} (hl : Cov C W U lba l k) (fl : Few l) (hm : Cov C W U lba m k) (i : Nat) (h1 : i < l.length) (h2 : i < m.length) (hf : l[i].f = m[i].f) (hc : l[i].c = m[i].c) (ha : l[i].a = m[i].a) : m[i].n ≤ l[i].n := by
  rcases Nat.lt_or_ge l[i].n m[i].n with h | h
  · exfalso
    have e1 := sumN_take_succ l i h1
    have e2 := sumN_take_succ m i h2
    have f1 := hl.from_ i h1
    have f2 := hm.from_ i h2
    have g2 := sumN_take_le m (i + 1)
    rw [hm.all] at g2
    have hi : i + 1 < l.length := by
      rcases Nat.lt_or_ge (i + 1) l.length with x | x
      · exact x
      · exfalso
        have : l.take (i + 1) = l := List.take_of_length_le x
        rw [this, hl.all] at e1
        omega
    have p1 := hl.from_ (i + 1) hi
    have n1 := (hl.lies l[i + 1] (List.getElem_mem _))
    have w1 := n1.lie 0 n1.pos
    have w2 := (hm.lies m[i] (List.getElem_mem _)).lie l[i].n h
    have e : lba + l[i + 1].f + 0 = lba + m[i].f + l[i].n := by rw [p1, e1, ← f1, hf]; omega
    rw [e, w2] at w1
    simp only [Prod.mk.injEq, Nat.add_zero] at w1
    exact fl i hi ⟨by rw [hc]; exact w1.1, by rw [ha]; exact w1.2⟩
  · exact h

/-- There is one way alone to cut a request into fewest pieces. -/
theorem cov_unique {C W U lba k : Nat} {l m : List Pc} (hl : Cov C W U lba l k) (fl : Few l) (hm : Cov C W U lba m k) (fm : Few m) : l = m := by
  have key : ∀ i, i ≤ l.length → i ≤ m.length ∧ l.take i = m.take i := by
    intro i
    induction i with
    | zero => intro _; exact ⟨Nat.zero_le _, rfl⟩
    | succ i ih =>
      intro hi
      obtain ⟨h1, h2⟩ := ih (by omega)
      have hil : i < l.length := by omega
      have nl := hl.lies l[i] (List.getElem_mem _)
      have e1 := sumN_take_succ l i hil
      have g1 := sumN_take_le l (i + 1)
      rw [hl.all] at g1
      have him : i < m.length := by
        rcases Nat.lt_or_ge i m.length with x | x
        · exact x
        · exfalso
          have : m.take i = m := List.take_of_length_le x
          rw [h2, this, hm.all] at e1
          have := nl.pos
          omega
      have nm := hm.lies m[i] (List.getElem_mem _)
      have hf : l[i].f = m[i].f := by rw [hl.from_ i hil, hm.from_ i him, h2]
      have w1 := nl.lie 0 nl.pos
      have w2 := nm.lie 0 nm.pos
      rw [hf, w2] at w1
      simp only [Prod.mk.injEq, Nat.add_zero] at w1
      have n1 := not_shorter hl fl hm i hil him hf w1.1.symm w1.2.symm
      have n2 := not_shorter hm fm hl i him hil hf.symm w1.1 w1.2
      have e : l[i] = m[i] := by
        have hn : l[i].n = m[i].n := Nat.le_antisymm n2 n1
        obtain ⟨c1, c2⟩ := w1
        generalize l[i] = x at *
        generalize m[i] = y at *
        cases x
        cases y
        simp_all
      refine ⟨by omega, ?_⟩
      rw [List.take_add_one, List.take_add_one, List.getElem?_eq_getElem hil, List.getElem?_eq_getElem him, h2, e]
  obtain ⟨h1, h2⟩ := key l.length (Nat.le_refl _)
  rw [List.take_length] at h2
  have hlen : l.length = m.length := by
    rcases Nat.lt_or_ge l.length m.length with x | x
    · exfalso
      have nm := hm.lies m[l.length] (List.getElem_mem _)
      have e2 := sumN_take_succ m l.length x
      have g2 := sumN_take_le m (l.length + 1)
      rw [hm.all, e2, ← h2, hl.all] at g2
      have := nm.pos
      omega
    · omega
  rw [h2, List.take_of_length_le (by omega)]
end Go.Proofs.Ytmbfglblkpipcaa.SM
