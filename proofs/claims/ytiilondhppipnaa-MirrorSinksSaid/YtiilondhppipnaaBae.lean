/- Texts SortS in one. Conditions: as each law names them. -/
import Derived.Test.YtiilondhppipnaaChecked
import Derived.Shelf.Sort.Plain
import Derived.Shelf.Slices.In.SortNone
import Derived.Test.YtiilondhppipnaaBab
/- slices.Sort at []string, as the kit's shelf has it, over Row and Keep. Conditions: as each law names them. -/
namespace Go.Proofs.Ytiilondhppipnaa
open Go.Shelf Go.RowKit Go.Sort

def renSortS : Ren := ⟨fun x => if x = 125 then 46 else if x = 128 then 56 else if x = 129 then 57 else if x = 190 then 44 else if x = 258 then 45 else if x = 302 then 47 else if x = 303 then 48 else if x = 304 then 49 else if x = 305 then 50 else if x = 306 then 51 else if x = 307 then 52 else if x = 308 then 53 else if x = 309 then 54 else if x = 310 then 55 else if x = 329 then 59 else if x = 330 then 60 else if x = 333 then 58 else if x = 334 then 61 else if x = 335 then 62 else if x = 336 then 63 else if x = 344 then 64 else x, fun x => if x = 0 then 0 else if x = 3 then 3 else if x = 4 then 4 else if x = 5 then 5 else if x = 9 then 9 else if x = 31 then 80 else if x = 46 then 49 else if x = 51 then 105 else if x = 53 then 26 else if x = 131 then 102 else if x = 182 then 96 else if x = 183 then 97 else if x = 218 then 106 else if x = 222 then 109 else if x = 228 then 112 else if x = 229 then 113 else x, fun x => x⟩

theorem laysSortS : Lays.n190 Try.prog renSortS :=
  { mixed := by kernel_rfl,
    f125 := by kernel_rfl,
    f128 := by kernel_rfl,
    f129 := by kernel_rfl,
    f190 := by kernel_rfl,
    f258 := by kernel_rfl,
    f302 := by kernel_rfl,
    f303 := by kernel_rfl,
    f304 := by kernel_rfl,
    f305 := by kernel_rfl,
    f306 := by kernel_rfl,
    f307 := by kernel_rfl,
    f308 := by kernel_rfl,
    f309 := by kernel_rfl,
    f310 := by kernel_rfl,
    f329 := by kernel_rfl,
    f330 := by kernel_rfl,
    f333 := by kernel_rfl,
    f334 := by kernel_rfl,
    f335 := by kernel_rfl,
    f336 := by kernel_rfl,
    f344 := by kernel_rfl,
    t0 := by kernel_rfl,
    a0 := fun w => by kernel_rfl,
    z0 := fun w => by kernel_rfl,
    v0 := fun w => by kernel_rfl,
    t3 := by kernel_rfl,
    a3 := fun w => by kernel_rfl,
    z3 := fun w => by kernel_rfl,
    v3 := fun w => by kernel_rfl,
    t4 := by kernel_rfl,
    a4 := fun w => by kernel_rfl,
    z4 := fun w => by kernel_rfl,
    v4 := fun w => by kernel_rfl,
    t5 := by kernel_rfl,
    a5 := fun w => by kernel_rfl,
    z5 := fun w => by kernel_rfl,
    v5 := fun w => by kernel_rfl,
    t9 := by kernel_rfl,
    a9 := fun w => by kernel_rfl,
    z9 := fun w => by kernel_rfl,
    v9 := fun w => by kernel_rfl,
    t31 := by kernel_rfl,
    a31 := fun w => by kernel_rfl,
    z31 := fun w => by kernel_rfl,
    v31 := fun w => by kernel_rfl,
    t46 := by kernel_rfl,
    a46 := fun w => by kernel_rfl,
    z46 := fun w => by kernel_rfl,
    v46 := fun w => by kernel_rfl,
    t51 := by kernel_rfl,
    a51 := fun w => by kernel_rfl,
    z51 := fun w => by kernel_rfl,
    v51 := fun w => by kernel_rfl,
    t53 := by kernel_rfl,
    a53 := fun w => by kernel_rfl,
    z53 := fun w => by kernel_rfl,
    v53 := fun w => by kernel_rfl,
    t131 := by kernel_rfl,
    a131 := fun w => by kernel_rfl,
    z131 := fun w => by kernel_rfl,
    v131 := fun w => by kernel_rfl,
    t182 := by kernel_rfl,
    a182 := fun w => by kernel_rfl,
    z182 := fun w => by kernel_rfl,
    v182 := fun w => by kernel_rfl,
    t183 := by kernel_rfl,
    a183 := fun w => by kernel_rfl,
    z183 := fun w => by kernel_rfl,
    v183 := fun w => by kernel_rfl,
    t218 := by kernel_rfl,
    a218 := fun w => by kernel_rfl,
    z218 := fun w => by kernel_rfl,
    v218 := fun w => by kernel_rfl,
    t222 := by kernel_rfl,
    a222 := fun w => by kernel_rfl,
    z222 := fun w => by kernel_rfl,
    v222 := fun w => by kernel_rfl,
    t228 := by kernel_rfl,
    a228 := fun w => by kernel_rfl,
    z228 := fun w => by kernel_rfl,
    v228 := fun w => by kernel_rfl,
    t229 := by kernel_rfl,
    a229 := fun w => by kernel_rfl,
    z229 := fun w => by kernel_rfl,
    v229 := fun w => by kernel_rfl }

/-- Strings as the cells of a []string. -/
def strsV (l : List (List UInt8)) : List Value := l.map encStr
theorem strsV_length (l : List (List UInt8)) : (strsV l).length = l.length := by simp [strsV]

theorem Row.holdsS {w : World} {g n cap : Nat} {l : List (List UInt8)} (h : Row w 9 1 (.slice (.some ⟨g, 0, none⟩) n cap) n (strsV l)) : Holds encStr w g 0 l.toArray := by
  have hl : l.length = n := by have := h.len; rw [strsV_length] at this; omega
  intro j hj
  have hj' : j < l.length := by simpa using hj
  refine ⟨?_, h.frozen (0 + j) (by omega)⟩
  rw [h.cell (0 + j) (by omega)]
  simp [strsV, hj']

/-- What a row is behind a writing of its cells. -/
theorem Row.putS {w : World} {g n cap : Nat} {l d : List (List UInt8)} (h : Row w 9 1 (.slice (.some ⟨g, 0, none⟩) n cap) n (strsV l)) (hd : d.length = n) (q : Nat) :
    Row (putRow encStr (Sort.ahead w q) g 0 d.toArray) 9 1 (.slice (.some ⟨g, 0, none⟩) n cap) n (strsV d) ∧ Keep (fun b => b = g) w (putRow encStr (Sort.ahead w q) g 0 d.toArray) := by
  rcases h.2 with ⟨hv, _⟩ | ⟨g', cap', cur, fz, hv, hg, hf, h1, h2, h3, h4⟩
  · cases hv
  · cases hv
    have hsz : (putCells encStr 0 d.toArray cur).size = cur.size := by simp [putCells]
    refine ⟨⟨by rw [strsV_length, hd, Nat.mul_one], .inr ⟨g, cap, putCells encStr 0 d.toArray cur, fz, rfl, ?_, by rw [hsz]; exact hf, h1, h2, by rw [hsz]; exact h3, ?_⟩⟩, ⟨rfl, rfl, rfl, ?_, fun k hk hn => ?_⟩⟩
    · simp [putRow, mapBlock, Array.getElem?_modify, Sort.ahead, hg, onCells]
    · apply List.ext_getElem?
      intro j
      rw [List.getElem?_take]
      by_cases hj : j < n
      · rw [if_pos (by omega)]
        have hjc : j < cur.size := by omega
        have hjd : j < d.length := by omega
        simp [putCells, strsV, hjc, hjd]
      · rw [if_neg (by omega)]
        exact (List.getElem?_eq_none (by rw [strsV_length]; omega)).symm
    · simp [putRow, mapBlock, Sort.ahead]
    · simp [putRow, mapBlock, Array.getElem?_modify, Sort.ahead, Ne.symm hn]

theorem Keep.growS {F : Nat → Prop} {a w : World} (h : Keep F a w) (os : Array Obj) : Keep F a (grow w os) :=
  ⟨h.os, h.tape, h.output, by have := h.size; simp; omega, fun k hk hn => by rw [heap_grow_old w os (Nat.lt_of_lt_of_le hk h.size)]; exact h.block k hk hn⟩

set_option maxRecDepth 20000 in
/-- slices.Sort at []string. -/
theorem sort_strs (w : World) (v : Value) (l : List (List UInt8)) (h : Row w 9 1 v l.length (strsV l)) (hb : l.length < 4611686018427387904) :
    Calls Try.prog 44 #[v] w fun e w' => e = .returned (.tuple #[]) ∧ Row w' 9 1 v l.length (strsV (l.mergeSort fun x y => decide (x ≤ y))) ∧ Keep (fun b => v.ownBlock = some b) w w' := by
  rcases Nat.eq_zero_or_pos l.length with h0 | h0
  · obtain rfl := List.length_eq_zero_iff.1 h0
    obtain ⟨ao, cap, rfl, -⟩ := h.form
    refine (Any.slices_Sort_string_none laysSortS ao cap w).mono ?_
    rintro e w' ⟨rfl, rfl⟩
    exact ⟨rfl, by simpa using h, Keep.refl _ _⟩
  · obtain ⟨g, cap, cur, fz, rfl, hg, hf, h1, h2, h3, h4⟩ := h.some h0
    refine (Any.slices_Sort_string laysSortS g 0 cap l w h.holdsS (heap_lt hg) hb).mono ?_
    rintro e w' ⟨rfl, n, os, rfl⟩
    obtain ⟨r, k⟩ := h.putS (d := l.mergeSort fun x y => decide (x ≤ y)) (by simp) n
    refine ⟨rfl, r.keep ((Keep.refl (fun _ => False) _).growS os) (fun _ _ x => x), (k.growS os).mono fun i _ hi => by simp [Value.ownBlock, hi]⟩

end Go.Proofs.Ytiilondhppipnaa
