/- Texts DelI in one. Conditions: as each law names them. -/
import Derived.Shelf.Slices.Delete
import Derived.Test.YtmdonjadhkffiaaBac
/- slices.Delete of one of a []int, as the kit's shelf has it. Conditions: as the contract names them. -/
namespace Go.Proofs.Ytmdonjadhkffiaa
open Go.Shelf Go.RowKit Go.Sort

def renDelete : Ren := ⟨fun x => if x = 23 then 59 else x, fun x => if x = 0 then 0 else if x = 3 then 3 else if x = 4 then 4 else if x = 22 then 22 else x, fun x => x⟩

theorem laysDelete : Lays2.n23 Try.prog renDelete :=
  { mixed := by kernel_rfl,
    f23 := by kernel_rfl,
    t0 := by kernel_rfl,
    a0 := fun w => by kernel_rfl,
    z0 := fun w => by kernel_rfl,
    v0 := fun w => by kernel_rfl,
    t3 := by kernel_rfl,
    a3 := fun w => by kernel_rfl,
    z3 := fun w => by kernel_rfl,
    v3 := fun w => by kernel_rfl,
    t4 := by kernel_rfl,
    a4 := fun w => by kernel_rfl,
    z4 := fun w => by kernel_rfl,
    v4 := fun w => by kernel_rfl,
    t22 := by kernel_rfl,
    a22 := fun w => by kernel_rfl,
    z22 := fun w => by kernel_rfl,
    v22 := fun w => by kernel_rfl,
    i3 := by kernel_rfl }

set_option maxRecDepth 20000 in
/-- slices.Delete(s, i, i+1) at []int, in a row of its own. -/
theorem delete1_ints (w : World) (v : Value) (l : List Int) (i : Nat) (h : Row w 3 1 v l.length (numsV l)) (hi : i < l.length) :
    Calls Try.prog 59 #[v, .int .i64 (i : Int), .int .i64 ((i : Int) + 1)] w fun e w' => ∃ g cap, v = .slice (some ⟨g, 0, none⟩) l.length cap ∧ e = .returned (.slice (some ⟨g, 0, none⟩) (l.length - 1) cap) ∧
      Row w' 3 1 (.slice (some ⟨g, 0, none⟩) (l.length - 1) cap) (l.length - 1) (numsV (l.eraseIdx i)) ∧ Keep (fun b => v.ownBlock = some b) w w' := by
  obtain ⟨g, cap, cur, fz, rfl, hg, hf, h1, h2, h3, h4⟩ := h.some (by omega)
  have hd := Any.slices_Delete_int laysDelete g 0 cap i (i + 1) l w h.holds h1 (by unfold maxLen at h2; omega) (by omega) (by omega)
  rw [show l.length - (i + 1 - i) = l.length - 1 by omega] at hd
  refine (hd : Calls _ _ #[_, _, .int .i64 ((i : Int) + 1)] _ _).mono ?_
  rintro e w' ⟨rfl, q, rfl⟩
  have hl : (l.take i ++ l.drop (i + 1) ++ List.replicate (i + 1 - i) 0).length = l.length := by simp; omega
  obtain ⟨r, k⟩ := h.put (d := l.take i ++ l.drop (i + 1) ++ List.replicate (i + 1 - i) 0) hl q
  refine ⟨g, cap, rfl, rfl, ?_, k.mono fun b _ hb => by simp [Value.ownBlock, hb]⟩
  have hc := r.cut (l.length - 1) (by omega)
  have e1 : (numsV (l.take i ++ l.drop (i + 1) ++ List.replicate (i + 1 - i) 0)).take ((l.length - 1) * 1) = numsV (l.eraseIdx i) := by
    unfold numsV
    rw [← List.map_take, Nat.mul_one, List.take_append_of_le_length (by simp; omega), List.take_of_length_le (by simp; omega), List.eraseIdx_eq_take_drop_succ]
  rw [e1] at hc
  exact hc
end Go.Proofs.Ytmdonjadhkffiaa
