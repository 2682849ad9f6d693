/- Texts SortZ in one. Conditions: as each law names them. -/
import Derived.Test.YtmdonjadhkffiaaChecked
import Derived.Shelf.Sort.Plain
import Derived.Shelf.Slices.In.SortNone
import Derived.Test.YtmdonjadhkffiaaBab
/- slices.Sort and slices.Compact at []int, as the kit's shelf has it. Conditions: as the contract names them. -/
namespace Go.Proofs.Ytmdonjadhkffiaa
open Go.Shelf Go.RowKit Go.Sort

def renSort : Ren := ⟨fun x => if x = 125 then 67 else if x = 128 then 78 else if x = 129 then 79 else if x = 189 then 41 else if x = 215 then 68 else if x = 216 then 75 else if x = 257 then 66 else if x = 294 then 69 else if x = 295 then 70 else if x = 296 then 71 else if x = 297 then 72 else if x = 298 then 73 else if x = 299 then 74 else if x = 300 then 76 else if x = 301 then 77 else if x = 328 then 80 else if x = 329 then 81 else if x = 330 then 82 else if x = 331 then 83 else if x = 332 then 84 else if x = 343 then 85 else x, fun x => if x = 0 then 0 else if x = 3 then 3 else if x = 4 then 4 else if x = 5 then 5 else if x = 9 then 9 else if x = 28 then 22 else if x = 46 then 48 else if x = 51 then 23 else if x = 53 then 98 else if x = 131 then 94 else if x = 182 then 88 else if x = 183 then 89 else if x = 218 then 99 else if x = 222 then 103 else if x = 228 then 105 else if x = 229 then 106 else x, fun x => x⟩

theorem laysSort : Lays.n189 Try.prog renSort :=
  { mixed := by kernel_rfl,
    f125 := by kernel_rfl,
    f128 := by kernel_rfl,
    f129 := by kernel_rfl,
    f189 := by kernel_rfl,
    f215 := by kernel_rfl,
    f216 := by kernel_rfl,
    f257 := by kernel_rfl,
    f294 := by kernel_rfl,
    f295 := by kernel_rfl,
    f296 := by kernel_rfl,
    f297 := by kernel_rfl,
    f298 := by kernel_rfl,
    f299 := by kernel_rfl,
    f300 := by kernel_rfl,
    f301 := by kernel_rfl,
    f328 := by kernel_rfl,
    f329 := by kernel_rfl,
    f330 := by kernel_rfl,
    f331 := by kernel_rfl,
    f332 := by kernel_rfl,
    f343 := by kernel_rfl,
    t0 := by kernel_rfl,
    a0 := fun w => by kernel_rfl,
    z0 := fun w => by kernel_rfl,
    v0 := fun w => by kernel_rfl,
    t3 := by kernel_rfl,
    a3 := fun w => by kernel_rfl,
    z3 := fun w => by kernel_rfl,
    v3 := fun w => by kernel_rfl,
    t4 := by kernel_rfl,
    a4 := fun w => by kernel_rfl,
    z4 := fun w => by kernel_rfl,
    v4 := fun w => by kernel_rfl,
    t5 := by kernel_rfl,
    a5 := fun w => by kernel_rfl,
    z5 := fun w => by kernel_rfl,
    v5 := fun w => by kernel_rfl,
    t9 := by kernel_rfl,
    a9 := fun w => by kernel_rfl,
    z9 := fun w => by kernel_rfl,
    v9 := fun w => by kernel_rfl,
    t28 := by kernel_rfl,
    a28 := fun w => by kernel_rfl,
    z28 := fun w => by kernel_rfl,
    v28 := fun w => by kernel_rfl,
    t46 := by kernel_rfl,
    a46 := fun w => by kernel_rfl,
    z46 := fun w => by kernel_rfl,
    v46 := fun w => by kernel_rfl,
    t51 := by kernel_rfl,
    a51 := fun w => by kernel_rfl,
    z51 := fun w => by kernel_rfl,
    v51 := fun w => by kernel_rfl,
    t53 := by kernel_rfl,
    a53 := fun w => by kernel_rfl,
    z53 := fun w => by kernel_rfl,
    v53 := fun w => by kernel_rfl,
    t131 := by kernel_rfl,
    a131 := fun w => by kernel_rfl,
    z131 := fun w => by kernel_rfl,
    v131 := fun w => by kernel_rfl,
    t182 := by kernel_rfl,
    a182 := fun w => by kernel_rfl,
    z182 := fun w => by kernel_rfl,
    v182 := fun w => by kernel_rfl,
    t183 := by kernel_rfl,
    a183 := fun w => by kernel_rfl,
    z183 := fun w => by kernel_rfl,
    v183 := fun w => by kernel_rfl,
    t218 := by kernel_rfl,
    a218 := fun w => by kernel_rfl,
    z218 := fun w => by kernel_rfl,
    v218 := fun w => by kernel_rfl,
    t222 := by kernel_rfl,
    a222 := fun w => by kernel_rfl,
    z222 := fun w => by kernel_rfl,
    v222 := fun w => by kernel_rfl,
    t228 := by kernel_rfl,
    a228 := fun w => by kernel_rfl,
    z228 := fun w => by kernel_rfl,
    v228 := fun w => by kernel_rfl,
    t229 := by kernel_rfl,
    a229 := fun w => by kernel_rfl,
    z229 := fun w => by kernel_rfl,
    v229 := fun w => by kernel_rfl }

/-- Numbers as the cells of an []int. -/
def numsV (l : List Int) : List Value := l.map (Value.int .i64)
theorem numsV_length (l : List Int) : (numsV l).length = l.length := by simp [numsV]

theorem Row.holds {w : World} {g n cap : Nat} {l : List Int} (h : Row w 3 1 (.slice (.some ⟨g, 0, none⟩) n cap) n (numsV l)) : Holds (Value.int .i64) w g 0 l.toArray := by
  have hl : l.length = n := by have := h.len; rw [numsV_length] at this; omega
  intro j hj
  have hj' : j < l.length := by simpa using hj
  refine ⟨?_, h.frozen (0 + j) (by omega)⟩
  rw [h.cell (0 + j) (by omega)]
  simp [numsV, hj']

/-- What a row is behind a writing of its cells. -/
theorem Row.put {w : World} {g n cap : Nat} {l d : List Int} (h : Row w 3 1 (.slice (.some ⟨g, 0, none⟩) n cap) n (numsV l)) (hd : d.length = n) (q : Nat) :
    Row (putRow (Value.int .i64) (Sort.ahead w q) g 0 d.toArray) 3 1 (.slice (.some ⟨g, 0, none⟩) n cap) n (numsV d) ∧ Keep (fun b => b = g) w (putRow (Value.int .i64) (Sort.ahead w q) g 0 d.toArray) := by
  rcases h.2 with ⟨hv, _⟩ | ⟨g', cap', cur, fz, hv, hg, hf, h1, h2, h3, h4⟩
  · cases hv
  · cases hv
    have hsz : (putCells (Value.int .i64) 0 d.toArray cur).size = cur.size := by simp [putCells]
    refine ⟨⟨by rw [numsV_length, hd, Nat.mul_one], .inr ⟨g, cap, putCells (Value.int .i64) 0 d.toArray cur, fz, rfl, ?_, by rw [hsz]; exact hf, h1, h2, by rw [hsz]; exact h3, ?_⟩⟩, ⟨rfl, rfl, rfl, ?_, fun k hk hn => ?_⟩⟩
    · simp [putRow, mapBlock, Array.getElem?_modify, Sort.ahead, hg, onCells]
    · apply List.ext_getElem?
      intro j
      rw [List.getElem?_take]
      by_cases hj : j < n
      · rw [if_pos (by omega)]
        have hjc : j < cur.size := by omega
        have hjd : j < d.length := by omega
        simp [putCells, numsV, hjc, hjd]
      · rw [if_neg (by omega)]
        exact (List.getElem?_eq_none (by rw [numsV_length]; omega)).symm
    · simp [putRow, mapBlock, Sort.ahead]
    · simp [putRow, mapBlock, Array.getElem?_modify, Sort.ahead, Ne.symm hn]

theorem Keep.grow {F : Nat → Prop} {a w : World} (h : Keep F a w) (os : Array Obj) : Keep F a (grow w os) :=
  ⟨h.os, h.tape, h.output, by have := h.size; simp; omega, fun k hk hn => by rw [heap_grow_old w os (Nat.lt_of_lt_of_le hk h.size)]; exact h.block k hk hn⟩

set_option maxRecDepth 20000 in
/-- slices.Sort at []int. -/
theorem sort_ints (w : World) (v : Value) (l : List Int) (h : Row w 3 1 v l.length (numsV l)) (hb : l.length < 4611686018427387904) :
    Calls Try.prog 41 #[v] w fun e w' => e = .returned (.tuple #[]) ∧ Row w' 3 1 v l.length (numsV (l.mergeSort fun x y => decide (x ≤ y))) ∧ Keep (fun b => v.ownBlock = some b) w w' := by
  rcases Nat.eq_zero_or_pos l.length with h0 | h0
  · obtain rfl := List.length_eq_zero_iff.1 h0
    obtain ⟨ao, cap, rfl, -⟩ := h.form
    refine (Any.slices_Sort_int_none laysSort ao cap w).mono ?_
    rintro e w' ⟨rfl, rfl⟩
    exact ⟨rfl, by simpa using h, Keep.refl _ _⟩
  · obtain ⟨g, cap, cur, fz, rfl, hg, hf, h1, h2, h3, h4⟩ := h.some h0
    refine (Any.slices_Sort_int laysSort g 0 cap l w h.holds (heap_lt hg) hb).mono ?_
    rintro e w' ⟨rfl, n, os, rfl⟩
    obtain ⟨r, k⟩ := h.put (d := l.mergeSort fun x y => decide (x ≤ y)) (by simp) n
    refine ⟨rfl, r.keep ((Keep.refl (fun _ => False) _).grow os) (fun _ _ x => x), (k.grow os).mono fun i _ hi => by simp [Value.ownBlock, hi]⟩

/-- Two rising lists with the same members are one. -/
theorem rising_unique : ∀ {a b : List Int}, a.Pairwise (· < ·) → b.Pairwise (· < ·) → (∀ x, x ∈ a ↔ x ∈ b) → a = b
  | [], [], _, _, _ => rfl
  | [], y :: b, _, _, h => absurd ((h y).2 (by simp)) (by simp)
  | x :: a, [], _, _, h => absurd ((h x).1 (by simp)) (by simp)
  | x :: a, y :: b, ha, hb, h => by
    rw [List.pairwise_cons] at ha hb
    have hxy : x = y := by
      have h1 := (h x).1 (by simp)
      have h2 := (h y).2 (by simp)
      rcases List.mem_cons.1 h1 with e | e
      · exact e
      · rcases List.mem_cons.1 h2 with e' | e'
        · exact e'.symm
        · have := hb.1 x e
          have := ha.1 y e'
          omega
    subst hxy
    congr 1
    refine rising_unique ha.2 hb.2 fun z => ?_
    have := h z
    simp only [List.mem_cons] at this
    constructor
    · intro hz
      rcases this.1 (.inr hz) with e | e
      · have := ha.1 z hz
        omega
      · exact e
    · intro hz
      rcases this.2 (.inr hz) with e | e
      · have := hb.1 z hz
        omega
      · exact e

end Go.Proofs.Ytmdonjadhkffiaa
