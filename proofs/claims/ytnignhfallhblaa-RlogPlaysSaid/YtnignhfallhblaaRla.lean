/- The document's log: how it lies in memory; contracts for its search. Conditions: as each contract names them. -/
import Derived.Test.YtnignhfallhblaaRlogF
namespace Go.Proofs.Ytnignhfallhblaa
open Go.RowKit
open RM

/-- The document's log at block b: entries in any order. -/
structure RIs (w : World) (b : Nat) (F : Nat → Prop) (ap : Nat) (rl : List Ent) (v : Value) (us : List (Nat × Value)) : Prop where
  head : w.heap[b]? = some (.cells #[.int .u64 (ap : Int), v] 53 (0, 0))
  row : Row w 32 2 v rl.length (entsV us)
  keys : us.map (·.1) = rl.map (·.1)
  each : ∀ i (hi : i < rl.length), ∃ ao c, (us[i]?.map (·.2)) = some (.slice ao rl[i].2.length c) ∧ Cells w ao rl[i].2.length 1 (bytesV rl[i].2) ∧ (0 < rl[i].2.length → ∀ x, ao = some x → F x.block ∧ x.block ≠ b ∧ v.ownBlock ≠ some x.block)
  self : F b
  own : ∀ k, v.ownBlock = some k → F k ∧ k ≠ b
  lt : ∀ k, F k → k < w.heap.size
theorem RIs.len {w : World} {b ap : Nat} {F : Nat → Prop} {rl : List Ent} {v : Value} {us : List (Nat × Value)} (h : RIs w b F ap rl v us) : us.length = rl.length := by
  have := congrArg List.length h.keys
  simpa using this
theorem RIs.keep {w w' : World} {b ap : Nat} {F G : Nat → Prop} {rl : List Ent} {v : Value} {us : List (Nat × Value)} (h : RIs w b F ap rl v us) (hk : Keep G w w') (hn : ∀ k, F k → ¬ G k) : RIs w' b F ap rl v us := by
  refine ⟨hk.get h.head (hn _ h.self), h.row.keep hk fun k e => hn _ (h.own k e).1, h.keys, fun i hi => ?_, h.self, h.own, fun k hF => Nat.lt_of_lt_of_le (h.lt k hF) hk.size⟩
  obtain ⟨ao, c, h1, h2, h3⟩ := h.each i hi
  exact ⟨ao, c, h1, h2.keep0 hk fun hp x hx => hn _ (h3 (by omega) x hx).1, h3⟩
theorem RIs.slices {w : World} {b ap : Nat} {F : Nat → Prop} {rl : List Ent} {v : Value} {us : List (Nat × Value)} (h : RIs w b F ap rl v us) : ∀ e ∈ us, ∃ ao m c, e.2 = .slice ao m c := fun e he => by
  obtain ⟨i, hi, rfl⟩ := List.getElem_of_mem he
  obtain ⟨ao, c, h1, _⟩ := h.each i (by rw [← h.len]; exact hi)
  rw [List.getElem?_eq_getElem hi] at h1
  exact ⟨ao, _, c, by simpa using h1⟩
theorem RIs.key {w : World} {b ap : Nat} {F : Nat → Prop} {rl : List Ent} {v : Value} {us : List (Nat × Value)} (h : RIs w b F ap rl v us) (i : Nat) (hu : i < us.length) (hr : i < rl.length) : us[i].1 = rl[i].1 := by
  have hh := congrArg (fun l => l[i]?) h.keys
  simp only [List.getElem?_map, List.getElem?_eq_getElem hu, List.getElem?_eq_getElem hr, Option.map_some, Option.some.injEq] at hh
  exact hh
theorem RIs.ent {w : World} {b ap : Nat} {F : Nat → Prop} {rl : List Ent} {v : Value} {us : List (Nat × Value)} (h : RIs w b F ap rl v us) (i : Nat) (hi : i < rl.length) :
    ∃ gr cap ao c, v = .slice (some ⟨gr, 0, none⟩) rl.length cap ∧ w.cell? ⟨gr, i * 2, none⟩ = some (.int .u64 (rl[i].1 : Nat)) ∧ w.cell? ⟨gr, i * 2 + 1, none⟩ = some (.slice ao rl[i].2.length c) ∧ Cells w ao rl[i].2.length 1 (bytesV rl[i].2) ∧ us[i]? = some (rl[i].1, .slice ao rl[i].2.length c) ∧ (0 < rl[i].2.length → ∀ x, ao = some x → F x.block) := by
  obtain ⟨ao, c, x1, x2, x3⟩ := h.each i hi
  have hui : i < us.length := by rw [h.len]; exact hi
  obtain ⟨gr, cap, hv, c0, c1⟩ := ent_at h.row i hui
  have hus : us[i].2 = .slice ao rl[i].2.length c := by rw [List.getElem?_eq_getElem hui] at x1; simpa using x1
  have hk := h.key i hui hi
  rw [hus] at c1
  rw [hk] at c0
  exact ⟨gr, cap, ao, c, hv, c0, c1, x2, by rw [List.getElem?_eq_getElem hui]; exact congrArg some (Prod.ext hk hus), fun hp x hx => (x3 hp x hx).1⟩

def RefAt (w : World) (b : Nat) (F : Nat → Prop) (g : Lg) : Prop := ∃ v us rl, RIs w b F g.ap rl v us ∧ rl.Perm g.l ∧ RM.Ok g
def RefTo (b : Nat) (F : Nat → Prop) (w : World) (g : Lg) (w' : World) : Prop := ∃ F', RefAt w' b F' g ∧ Keep F w w' ∧ ∀ k, F' k → F k ∨ w.heap.size ≤ k
theorem RefAt.keep {w w' : World} {b : Nat} {F G : Nat → Prop} {g : Lg} (h : RefAt w b F g) (hk : Keep G w w') (hn : ∀ k, F k → ¬ G k) : RefAt w' b F g :=
  let ⟨_, _, _, h1, h2, h3⟩ := h; ⟨_, _, _, h1.keep hk hn, h2, h3⟩
theorem RefAt.read {w w' : World} {b : Nat} {F : Nat → Prop} {g : Lg} (h : RefAt w b F g) (hk : Keep (fun _ => False) w w') : RefAt w' b F g := h.keep hk fun _ _ x => x
theorem RefAt.ok {w : World} {b : Nat} {F : Nat → Prop} {g : Lg} (h : RefAt w b F g) : RM.Ok g := let ⟨_, _, _, _, _, h3⟩ := h; h3
theorem RefAt.lt {w : World} {b : Nat} {F : Nat → Prop} {g : Lg} (h : RefAt w b F g) : ∀ k, F k → k < w.heap.size := let ⟨_, _, _, h1, _, _⟩ := h; h1.lt
theorem RefAt.to {w w' : World} {b : Nat} {F : Nat → Prop} {g : Lg} (h : RefAt w b F g) (hk : Keep (fun _ => False) w w') : RefTo b F w g w' :=
  ⟨F, h.read hk, hk.mono fun _ _ x => x.elim, fun _ x => .inl x⟩

theorem perm_has {l m : List Ent} (h : l.Perm m) (s : Nat) : Has l s ↔ Has m s :=
  ⟨fun ⟨v, hv⟩ => ⟨v, h.mem_iff.1 hv⟩, fun ⟨v, hv⟩ => ⟨v, h.mem_iff.2 hv⟩⟩

def RFind (rl : List Ent) (t : Nat) (z : Int) : Prop := (z = -1 ∧ ¬ Has rl t) ∨ ∃ k : Nat, ∃ hk : k < rl.length, z = (k : Int) ∧ rl[k].1 = t

set_option maxRecDepth 20000 in
theorem rat_any (w : World) (b ap : Nat) (F : Nat → Prop) (rl : List Ent) (v : Value) (us : List (Nat × Value)) (t : Nat) (h : RIs w b F ap rl v us) (hn6 : rl.length ≤ 1000000) :
    Calls Try.prog 42 #[.pointer (some ⟨b, 0, none⟩), .int .u64 t] w fun e w' => ∃ z : Int, e = .returned (.int .i64 z) ∧ RFind rl t z ∧ Keep (fun _ => False) w w' := by
  obtain ⟨ao, c, rfl, -⟩ := h.row.form
  have HR := hid h
  obtain ⟨n, hn⟩ : ∃ n, n = rl.length := ⟨_, rfl⟩
  obtain ⟨a0, a1, -⟩ := cells2 h.head
  rw [← hn] at hn6 a1
  have Hn := hid hn
  clear h hn
  go_enter Try.func42, Try.ntmps42
  go_wp2_with (at_builtin; refine stopAt ?_; intro q hq)
  go_loopw [5] (fun iv wr => ∃ i : Nat, i ≤ n ∧ iv = .int .i64 i ∧ Hid (wr = w ∧ ∀ j (hj : j < rl.length), j < i → rl[j].1 ≠ t)) (fun iv _ => n - (intOf iv).toNat)
  case atStart => exact ⟨0, Nat.zero_le _, rfl, hid ⟨by first | rfl | trivial, fun j hj h => by omega⟩⟩
  case round =>
    obtain ⟨i, hi, rfl, HK⟩ := hrel
    have hw := HK.out.1.symm
    subst hw
    by_cases h1 : i < n
    · have q1 : (i : Int) < n := by omega
      have hil : i < rl.length := by rw [← Hn.out]; exact h1
      obtain ⟨g, cap', ao', c', hv, c0, -⟩ := HR.out.ent i hil
      obtain ⟨rfl, rfl⟩ : ao = some ⟨g, 0, none⟩ ∧ c = cap' := by simpa using hv
      obtain ⟨x, hx⟩ : ∃ x, x = rl[i].1 := ⟨_, rfl⟩
      rw [← hx] at c0
      have Hx := hid hx
      clear hx hv
      by_cases hxt : x = t
      · have q2 : ((x : Int) == (t : Int)) = true := by simp [hxt]
        have Hxt := hid hxt
        clear hxt
        go_wp2_with (at_builtin; refine stopAt ?_; intro q hq)
        go_ret
        exact ⟨i, by rfl, .inr ⟨i, hil, rfl, by rw [← Hx.out]; exact Hxt.out⟩, Keep.refl _ _⟩
      · have q2 : ((x : Int) == (t : Int)) = false := by simp; omega
        have HK2 := hid (show ∀ j (hj : j < rl.length), j < i + 1 → rl[j].1 ≠ t from fun j hj h => by
          rcases Nat.lt_or_eq_of_le (Nat.le_of_lt_succ h) with y | y
          · exact HK.out.2 j hj y
          · subst y; rw [← Hx.out]; exact hxt)
        clear hxt
        go_wp2_with (at_builtin; refine stopAt ?_; intro q hq)
        exact ⟨⟨i + 1, by omega, by go_num, hid ⟨by first | rfl | trivial, HK2.out⟩⟩, by simp [intOf]; omega⟩
    · have q1 : decide ((i : Int) < (n : Int)) = false := by simp; omega
      obtain rfl : i = n := by omega
      go_wp2_with (at_builtin; refine stopAt ?_; intro q hq)
      go_ret
      exact ⟨-1, by rfl, .inl ⟨rfl, fun ⟨u, hu⟩ => by
        obtain ⟨j, hj, e⟩ := List.getElem_of_mem hu
        exact HK.out.2 j hj (by rw [Hn.out]; exact hj) (by rw [e])⟩, Keep.refl _ _⟩
end Go.Proofs.Ytnignhfallhblaa
