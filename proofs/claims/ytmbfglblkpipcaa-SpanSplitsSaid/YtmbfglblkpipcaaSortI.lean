/- slices.Sort and slices.Compact at []int, as the kit's shelf has it. Conditions: as the contract names them. -/
import Derived.Test.YtmbfglblkpipcaaChecked
import Derived.Test.YtmbfglblkpipcaaBase
import Derived.Shelf.Sort.Plain
import Derived.Shelf.Slices.In.SortNone
import Derived.Shelf.Slices.CompactI
namespace Go.Proofs.Ytmbfglblkpipcaa
open Go.Shelf Go.RowKit Go.Sort

def renSort : Ren := ⟨fun x => if x = 125 then 32 else if x = 128 then 43 else if x = 129 then 44 else if x = 189 then 27 else if x = 215 then 50 else if x = 216 then 40 else if x = 257 then 31 else if x = 294 then 34 else if x = 295 then 35 else if x = 296 then 36 else if x = 297 then 37 else if x = 298 then 38 else if x = 299 then 39 else if x = 300 then 41 else if x = 301 then 42 else if x = 328 then 45 else if x = 329 then 46 else if x = 330 then 47 else if x = 331 then 48 else if x = 332 then 49 else if x = 343 then 51 else x, fun x => if x = 0 then 0 else if x = 3 then 3 else if x = 4 then 4 else if x = 5 then 5 else if x = 9 then 9 else if x = 28 then 52 else if x = 46 then 27 else if x = 51 then 83 else if x = 53 then 23 else if x = 131 then 80 else if x = 182 then 74 else if x = 183 then 75 else if x = 218 then 84 else if x = 222 then 88 else if x = 228 then 91 else if x = 229 then 60 else x, fun x => x⟩

theorem laysSort : Lays.n189 Try.prog renSort :=
  { mixed := by kernel_rfl,
    f125 := by kernel_rfl,
    f128 := by kernel_rfl,
    f129 := by kernel_rfl,
    f189 := by kernel_rfl,
    f215 := by kernel_rfl,
    f216 := by kernel_rfl,
    f257 := by kernel_rfl,
    f294 := by kernel_rfl,
    f295 := by kernel_rfl,
    f296 := by kernel_rfl,
    f297 := by kernel_rfl,
    f298 := by kernel_rfl,
    f299 := by kernel_rfl,
    f300 := by kernel_rfl,
    f301 := by kernel_rfl,
    f328 := by kernel_rfl,
    f329 := by kernel_rfl,
    f330 := by kernel_rfl,
    f331 := by kernel_rfl,
    f332 := by kernel_rfl,
    f343 := by kernel_rfl,
    t0 := by kernel_rfl,
    a0 := fun w => by kernel_rfl,
    z0 := fun w => by kernel_rfl,
    v0 := fun w => by kernel_rfl,
    t3 := by kernel_rfl,
    a3 := fun w => by kernel_rfl,
    z3 := fun w => by kernel_rfl,
    v3 := fun w => by kernel_rfl,
    t4 := by kernel_rfl,
    a4 := fun w => by kernel_rfl,
    z4 := fun w => by kernel_rfl,
    v4 := fun w => by kernel_rfl,
    t5 := by kernel_rfl,
    a5 := fun w => by kernel_rfl,
    z5 := fun w => by kernel_rfl,
    v5 := fun w => by kernel_rfl,
    t9 := by kernel_rfl,
    a9 := fun w => by kernel_rfl,
    z9 := fun w => by kernel_rfl,
    v9 := fun w => by kernel_rfl,
    t28 := by kernel_rfl,
    a28 := fun w => by kernel_rfl,
    z28 := fun w => by kernel_rfl,
    v28 := fun w => by kernel_rfl,
    t46 := by kernel_rfl,
    a46 := fun w => by kernel_rfl,
    z46 := fun w => by kernel_rfl,
    v46 := fun w => by kernel_rfl,
    t51 := by kernel_rfl,
    a51 := fun w => by kernel_rfl,
    z51 := fun w => by kernel_rfl,
    v51 := fun w => by kernel_rfl,
    t53 := by kernel_rfl,
    a53 := fun w => by kernel_rfl,
    z53 := fun w => by kernel_rfl,
    v53 := fun w => by kernel_rfl,
    t131 := by kernel_rfl,
    a131 := fun w => by kernel_rfl,
    z131 := fun w => by kernel_rfl,
    v131 := fun w => by kernel_rfl,
    t182 := by kernel_rfl,
    a182 := fun w => by kernel_rfl,
    z182 := fun w => by kernel_rfl,
    v182 := fun w => by kernel_rfl,
    t183 := by kernel_rfl,
    a183 := fun w => by kernel_rfl,
    z183 := fun w => by kernel_rfl,
    v183 := fun w => by kernel_rfl,
    t218 := by kernel_rfl,
    a218 := fun w => by kernel_rfl,
    z218 := fun w => by kernel_rfl,
    v218 := fun w => by kernel_rfl,
    t222 := by kernel_rfl,
    a222 := fun w => by kernel_rfl,
    z222 := fun w => by kernel_rfl,
    v222 := fun w => by kernel_rfl,
    t228 := by kernel_rfl,
    a228 := fun w => by kernel_rfl,
    z228 := fun w => by kernel_rfl,
    v228 := fun w => by kernel_rfl,
    t229 := by kernel_rfl,
    a229 := fun w => by kernel_rfl,
    z229 := fun w => by kernel_rfl,
    v229 := fun w => by kernel_rfl }

def renCompact : Ren := ⟨fun x => if x = 20 then 28 else x, fun x => if x = 0 then 0 else if x = 3 then 3 else if x = 4 then 4 else if x = 22 then 52 else x, fun x => x⟩

theorem laysCompact : Lays2.n20 Try.prog renCompact :=
  { mixed := by kernel_rfl,
    f20 := by kernel_rfl,
    t0 := by kernel_rfl,
    a0 := fun w => by kernel_rfl,
    z0 := fun w => by kernel_rfl,
    v0 := fun w => by kernel_rfl,
    t3 := by kernel_rfl,
    a3 := fun w => by kernel_rfl,
    z3 := fun w => by kernel_rfl,
    v3 := fun w => by kernel_rfl,
    t4 := by kernel_rfl,
    a4 := fun w => by kernel_rfl,
    z4 := fun w => by kernel_rfl,
    v4 := fun w => by kernel_rfl,
    t22 := by kernel_rfl,
    a22 := fun w => by kernel_rfl,
    z22 := fun w => by kernel_rfl,
    v22 := fun w => by kernel_rfl,
    i3 := by kernel_rfl }

/-- Numbers as the cells of an []int. -/
def numsV (l : List Int) : List Value := l.map (Value.int .i64)
theorem numsV_length (l : List Int) : (numsV l).length = l.length := by simp [numsV]

theorem Row.holds {w : World} {g n cap : Nat} {l : List Int} (h : Row w 3 1 (.slice (.some ⟨g, 0, none⟩) n cap) n (numsV l)) : Holds (Value.int .i64) w g 0 l.toArray := by
  have hl : l.length = n := by have := h.len; rw [numsV_length] at this; omega
  intro j hj
  have hj' : j < l.length := by simpa using hj
  refine ⟨?_, h.frozen (0 + j) (by omega)⟩
  rw [h.cell (0 + j) (by omega)]
  simp [numsV, hj']

/-- What a row is behind a writing of its cells. -/
theorem Row.put {w : World} {g n cap : Nat} {l d : List Int} (h : Row w 3 1 (.slice (.some ⟨g, 0, none⟩) n cap) n (numsV l)) (hd : d.length = n) (q : Nat) :
    Row (putRow (Value.int .i64) (Sort.ahead w q) g 0 d.toArray) 3 1 (.slice (.some ⟨g, 0, none⟩) n cap) n (numsV d) ∧ Keep (fun b => b = g) w (putRow (Value.int .i64) (Sort.ahead w q) g 0 d.toArray) := by
  rcases h.2 with ⟨hv, _⟩ | ⟨g', cap', cur, fz, hv, hg, hf, h1, h2, h3, h4⟩
  · cases hv
  · cases hv
    have hsz : (putCells (Value.int .i64) 0 d.toArray cur).size = cur.size := by simp [putCells]
    refine ⟨⟨by rw [numsV_length, hd, Nat.mul_one], .inr ⟨g, cap, putCells (Value.int .i64) 0 d.toArray cur, fz, rfl, ?_, by rw [hsz]; exact hf, h1, h2, by rw [hsz]; exact h3, ?_⟩⟩, ⟨rfl, rfl, rfl, ?_, fun k hk hn => ?_⟩⟩
    · simp [putRow, mapBlock, Array.getElem?_modify, Sort.ahead, hg, onCells]
    · apply List.ext_getElem?
      intro j
      rw [List.getElem?_take]
      by_cases hj : j < n
      · rw [if_pos (by omega)]
        have hjc : j < cur.size := by omega
        have hjd : j < d.length := by omega
        simp [putCells, numsV, hjc, hjd]
      · rw [if_neg (by omega)]
        exact (List.getElem?_eq_none (by rw [numsV_length]; omega)).symm
    · simp [putRow, mapBlock, Sort.ahead]
    · simp [putRow, mapBlock, Array.getElem?_modify, Sort.ahead, Ne.symm hn]

theorem Keep.grow {F : Nat → Prop} {a w : World} (h : Keep F a w) (os : Array Obj) : Keep F a (grow w os) :=
  ⟨h.os, h.tape, h.output, by have := h.size; simp; omega, fun k hk hn => by rw [heap_grow_old w os (Nat.lt_of_lt_of_le hk h.size)]; exact h.block k hk hn⟩

set_option maxRecDepth 20000 in
/-- slices.Sort at []int. -/
theorem sort_ints (w : World) (v : Value) (l : List Int) (h : Row w 3 1 v l.length (numsV l)) (hb : l.length < 4611686018427387904) :
    Calls Try.prog 27 #[v] w fun e w' => e = .returned (.tuple #[]) ∧ Row w' 3 1 v l.length (numsV (l.mergeSort fun x y => decide (x ≤ y))) ∧ Keep (fun b => v.ownBlock = some b) w w' := by
  rcases Nat.eq_zero_or_pos l.length with h0 | h0
  · obtain rfl := List.length_eq_zero_iff.1 h0
    obtain ⟨ao, cap, rfl, -⟩ := h.form
    refine (Any.slices_Sort_int_none laysSort ao cap w).mono ?_
    rintro e w' ⟨rfl, rfl⟩
    exact ⟨rfl, by simpa using h, Keep.refl _ _⟩
  · obtain ⟨g, cap, cur, fz, rfl, hg, hf, h1, h2, h3, h4⟩ := h.some h0
    refine (Any.slices_Sort_int laysSort g 0 cap l w h.holds (heap_lt hg) hb).mono ?_
    rintro e w' ⟨rfl, n, os, rfl⟩
    obtain ⟨r, k⟩ := h.put (d := l.mergeSort fun x y => decide (x ≤ y)) (by simp) n
    refine ⟨rfl, r.keep ((Keep.refl (fun _ => False) _).grow os) (fun _ _ x => x), (k.grow os).mono fun i _ hi => by simp [Value.ownBlock, hi]⟩

set_option maxRecDepth 20000 in
/-- slices.Compact at []int. -/
theorem compact_ints (w : World) (ao : Option Addr) (cap : Nat) (l : List Int) (h : Row w 3 1 (.slice ao l.length cap) l.length (numsV l)) (hle : (Lib.compact l).length ≤ l.length) :
    Calls Try.prog 28 #[.slice ao l.length cap] w fun e w' => e = .returned (.slice ao (Lib.compact l).length cap) ∧ Row w' 3 1 (.slice ao (Lib.compact l).length cap) (Lib.compact l).length (numsV (Lib.compact l)) ∧ Keep (fun b => (Value.slice ao l.length cap).ownBlock = some b) w w' := by
  rcases Nat.eq_zero_or_pos l.length with h0 | h0
  · obtain rfl := List.length_eq_zero_iff.1 h0
    refine (Any.slices_Compact_int_empty laysCompact ao cap w).mono ?_
    rintro e w' ⟨rfl, rfl⟩
    exact ⟨rfl, h, Keep.refl _ _⟩
  · obtain ⟨g, cap', cur, fz, hv, hg, hf, h1, h2, h3, h4⟩ := h.some h0
    cases hv
    refine (Any.slices_Compact_int laysCompact g 0 cap l w h.holds (by unfold maxLen at h2; omega) h1).mono ?_
    rintro e w' ⟨rfl, n, rfl⟩
    obtain ⟨r, k⟩ := h.put (d := Lib.compact l ++ List.replicate (l.length - (Lib.compact l).length) 0) (by simp; omega) n
    refine ⟨rfl, ?_, k.mono fun i _ hi => by simp [Value.ownBlock, hi]⟩
    have := r.cut (Lib.compact l).length hle
    simpa [numsV] using this

/-! ### what that is -/

theorem compactUpTo_rising (d : Array Int) (hs : ∀ i j, i ≤ j → j < d.size → d[i]! ≤ d[j]!) : ∀ m, m ≤ d.size → (Lib.compactUpTo d m).Pairwise (· < ·) ∧ (∀ x, x ∈ Lib.compactUpTo d m ↔ ∃ j, j < m ∧ x = d[j]!)
  | 0, _ => by simp [Lib.compactUpTo]
  | m + 1, hm => by
    obtain ⟨ih1, ih2⟩ := compactUpTo_rising d hs m (by omega)
    rw [Lib.compactUpTo_succ]
    by_cases hk : Lib.keeps d m = true
    · rw [if_pos hk]
      have hlt : ∀ j, j < m → d[j]! < d[m]! := fun j hj => by
        have h1 := hs j (m - 1) (by omega) (by omega)
        have h2 := hs (m - 1) m (by omega) (by omega)
        have h3 : d[m]! ≠ d[m - 1]! := by
          simp only [Lib.keeps, decide_eq_true_eq] at hk
          rcases hk with x | x
          · omega
          · exact x
        omega
      refine ⟨List.pairwise_append.2 ⟨ih1, List.pairwise_singleton _ _, fun a ha b hb => ?_⟩, fun x => ?_⟩
      · obtain ⟨j, hj, rfl⟩ := (ih2 a).1 ha
        simp only [List.mem_singleton] at hb
        subst hb
        exact hlt j hj
      · simp only [List.mem_append, List.mem_singleton, ih2]
        constructor
        · rintro (⟨j, hj, rfl⟩ | rfl)
          · exact ⟨j, by omega, rfl⟩
          · exact ⟨m, by omega, rfl⟩
        · rintro ⟨j, hj, rfl⟩
          by_cases hjm : j = m
          · exact .inr (by rw [hjm])
          · exact .inl ⟨j, by omega, rfl⟩
    · rw [if_neg hk, List.append_nil]
      refine ⟨ih1, fun x => ?_⟩
      rw [ih2]
      constructor
      · rintro ⟨j, hj, rfl⟩
        exact ⟨j, by omega, rfl⟩
      · rintro ⟨j, hj, rfl⟩
        by_cases hjm : j = m
        · subst hjm
          simp only [Lib.keeps, decide_eq_true_eq, not_or, Classical.not_not] at hk
          exact ⟨j - 1, by omega, hk.2⟩
        · exact ⟨j, by omega, rfl⟩

/-- Sorted, then compacted: rising, and the same members. -/
theorem compact_sorted (l : List Int) : (Lib.compact (l.mergeSort fun x y => decide (x ≤ y))).Pairwise (· < ·) ∧ ∀ x, x ∈ Lib.compact (l.mergeSort fun x y => decide (x ≤ y)) ↔ x ∈ l := by
  have hp : (l.mergeSort fun x y => decide (x ≤ y)).Pairwise fun x y => decide (x ≤ y) = true := List.pairwise_mergeSort (fun a b c h1 h2 => by simp at *; omega) (fun a b => by simp; omega) l
  have hm : ∀ x, x ∈ (l.mergeSort fun x y => decide (x ≤ y)) ↔ x ∈ l := fun x => List.mem_mergeSort
  obtain ⟨s, hs⟩ : ∃ s, s = l.mergeSort fun x y => decide (x ≤ y) := ⟨_, rfl⟩
  rw [← hs] at hp hm ⊢
  clear hs
  have hsr : ∀ i j, i ≤ j → j < s.toArray.size → s.toArray[i]! ≤ s.toArray[j]! := fun i j hij hj => by
    have hj' : j < s.length := by simpa using hj
    have hi' : i < s.length := by omega
    rcases Nat.eq_or_lt_of_le hij with rfl | hlt
    · exact Int.le_refl _
    · have := List.pairwise_iff_getElem.1 hp i j hi' hj' hlt
      simpa [hi', hj'] using this
  obtain ⟨h1, h2⟩ := compactUpTo_rising s.toArray hsr s.length (by simp)
  refine ⟨h1, fun x => ?_⟩
  rw [← hm]
  refine (h2 x).trans ?_
  constructor
  · rintro ⟨j, hj, rfl⟩
    simp [hj]
  · intro hx
    obtain ⟨j, hj, rfl⟩ := List.mem_iff_getElem.1 hx
    exact ⟨j, hj, by simp [hj]⟩

/-- Two rising lists with the same members are one. -/
theorem rising_unique : ∀ {a b : List Int}, a.Pairwise (· < ·) → b.Pairwise (· < ·) → (∀ x, x ∈ a ↔ x ∈ b) → a = b
  | [], [], _, _, _ => rfl
  | [], y :: b, _, _, h => absurd ((h y).2 (by simp)) (by simp)
  | x :: a, [], _, _, h => absurd ((h x).1 (by simp)) (by simp)
  | x :: a, y :: b, ha, hb, h => by
    rw [List.pairwise_cons] at ha hb
    have hxy : x = y := by
      have h1 := (h x).1 (by simp)
      have h2 := (h y).2 (by simp)
      rcases List.mem_cons.1 h1 with e | e
      · exact e
      · rcases List.mem_cons.1 h2 with e' | e'
        · exact e'.symm
        · have := hb.1 x e
          have := ha.1 y e'
          omega
    subst hxy
    congr 1
    refine rising_unique ha.2 hb.2 fun z => ?_
    have := h z
    simp only [List.mem_cons] at this
    constructor
    · intro hz
      rcases this.1 (.inr hz) with e | e
      · have := ha.1 z hz
        omega
      · exact e
    · intro hz
      rcases this.2 (.inr hz) with e | e
      · have := hb.1 z hz
        omega
      · exact e

theorem compact_len (l : List Int) : (Lib.compact l).length ≤ l.length := by
  unfold Lib.compact Lib.compactUpTo
  rw [List.length_map]
  exact Nat.le_trans (List.length_filter_le _ _) (by simp)

end Go.Proofs.Ytmbfglblkpipcaa
