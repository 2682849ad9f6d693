/- A slice of slices of bytes that the call itself made. Conditions: none. -/
import Derived.Test.YtenijbngmdaakaaArgs
namespace Go.Proofs.Ytenijbngmdaakaa
open Go.RowKit

structure Shelf (w0 wr : World) (F : Nat → Prop) (v : Value) (L : List (List UInt8)) (vs : List Value) : Prop where
  row : Row wr 22 1 v L.length vs
  each : ∀ j (hj : j < L.length), ∃ ao c, vs[j]? = some (.slice ao L[j].length c) ∧ Cells wr ao L[j].length 1 (bytesV L[j]) ∧ (0 < L[j].length → ∀ x, ao = some x → ¬ F x.block ∧ v.ownBlock ≠ some x.block)
  own : ∀ j, v.ownBlock = some j → ¬ F j ∧ w0.heap.size ≤ j

theorem Cells.lt {w : World} {x : Addr} {n size : Nat} {xs : List Value} (h : Cells w (some x) n size xs) (hp : 0 < n * size) : x.block < w.heap.size := by
  obtain ⟨ad, had, hc⟩ := h.2 hp
  cases had
  have hl : 0 < xs.length := by rw [h.1]; exact hp
  have := World.block_lt_of_cell? w _ (hc 0 _ (List.getElem?_eq_getElem hl))
  rwa [show (x.add 0) = x by simp [Addr.add]] at this

theorem Shelf.nil (w0 wr : World) (F : Nat → Prop) : Shelf w0 wr F (.slice none 0 0) [] [] :=
  ⟨Row.nil _ _ _, fun j hj => by simp at hj, fun j hj => by simp [Value.ownBlock] at hj⟩

theorem Shelf.keep {w0 wr w' : World} {F F' G : Nat → Prop} {v : Value} {L : List (List UInt8)} {vs : List Value} (h : Shelf w0 wr F v L vs) (hk : Keep G wr w') (hG : ∀ k, G k → F k) (hF : ∀ k, F' k → F k ∨ wr.heap.size ≤ k) : Shelf w0 w' F' v L vs := by
  refine ⟨h.row.keep hk fun k e x => (h.own k e).1 (hG k x), fun j hj => ?_, fun j hj => ⟨fun x => ?_, (h.own j hj).2⟩⟩
  · obtain ⟨ao, c, h1, h2, h3⟩ := h.each j hj
    refine ⟨ao, c, h1, h2.keep0 hk fun hp x hx y => (h3 (by omega) x hx).1 (hG _ y), fun hp x hx => ⟨fun y => ?_, (h3 hp x hx).2⟩⟩
    subst hx
    have := h2.lt (by omega)
    rcases hF _ y with z | z
    · exact (h3 hp x rfl).1 z
    · omega
  · rcases hF _ x with z | z
    · exact (h.own j hj).1 z
    · have := h.row.lt hj; omega

/-- One slice more, by an append. -/
theorem Shelf.push {w0 wr w' : World} {F : Nat → Prop} {v v' : Value} {L : List (List UInt8)} {vs : List Value} (h : Shelf w0 wr F v L vs) (h0 : w0.heap.size ≤ wr.heap.size) {ao : Option Addr} {c : Nat} {l : List UInt8}
    (hs : Cells wr ao l.length 1 (bytesV l)) (ha : 0 < l.length → ∀ x, ao = some x → ¬ F x.block ∧ v.ownBlock ≠ some x.block)
    (hr : Row w' 22 1 v' (L.length + 1) (vs ++ [.slice ao l.length c])) (hk : Keep (fun k => v.ownBlock = some k) wr w')
    (hv : ∀ k, v'.ownBlock = some k → v.ownBlock = some k ∨ (wr.heap.size ≤ k ∧ ¬ F k)) : Shelf w0 w' F v' (L ++ [l]) (vs ++ [.slice ao l.length c]) := by
  have hl : vs.length = L.length := by have := h.row.len; omega
  refine ⟨by simpa using hr, fun j hj => ?_, fun j hj => ?_⟩
  · by_cases hjl : j < L.length
    · obtain ⟨ao', c', h1, h2, h3⟩ := h.each j hjl
      rw [List.getElem_append_left hjl]
      refine ⟨ao', c', by rw [List.getElem?_append_left (by omega)]; exact h1, h2.keep0 hk fun hp x hx => (h3 (by omega) x hx).2, fun hp x hx => ⟨(h3 hp x hx).1, fun e => ?_⟩⟩
      subst hx
      rcases hv _ e with z | z
      · exact (h3 hp x rfl).2 z
      · have := h2.lt (by omega); omega
    · obtain rfl : j = L.length := by simp at hj; omega
      rw [List.getElem_append_right (Nat.le_refl _)]
      simp only [Nat.sub_self, List.getElem_cons_zero]
      refine ⟨ao, c, by rw [List.getElem?_append_right (by omega)]; simp [hl], hs.keep0 hk fun hp x hx => (ha (by omega) x hx).2, fun hp x hx => ⟨(ha hp x hx).1, fun e => ?_⟩⟩
      subst hx
      rcases hv _ e with z | z
      · exact (ha hp x rfl).2 z
      · have := hs.lt (by omega); omega
  · rcases hv _ hj with z | z
    · exact h.own _ z
    · exact ⟨z.2, Nat.le_trans h0 z.1⟩

/-- One of the shelf's slices, as the code loads it. -/
theorem Shelf.get {w0 wr : World} {F : Nat → Prop} {v : Value} {L : List (List UInt8)} {vs : List Value} (h : Shelf w0 wr F v L vs) (j : Nat) (hj : j < L.length) :
    ∃ g cap ao c, v = .slice (some ⟨g, 0, none⟩) L.length cap ∧ wr.cell? ⟨g, j, none⟩ = some (.slice ao L[j].length c) ∧ Cells wr ao L[j].length 1 (bytesV L[j]) ∧ (0 < L[j].length → ∀ x, ao = some x → ¬ F x.block) := by
  obtain ⟨ao, c, h1, h2, h3⟩ := h.each j hj
  obtain ⟨g, cap, rfl, hc⟩ := h.row.getCell h1
  exact ⟨g, cap, ao, c, rfl, hc, h2, fun hp x hx => (h3 hp x hx).1⟩

theorem ty_rows : SliceTy Try.prog 33 22 (.slice none 0 0) 1 24 := ⟨by kernel_rfl, by kernel_rfl, rfl, by decide⟩

theorem Own.toS {w0 w w' : World} {b : Nat} {F : Nat → Prop} {D D' : DM.Dk} (h : Own w0 b F D w) (ht : DiskTo b F w D' w') :
    ∃ F', Own w0 b F' D' w' ∧ Keep F w w' ∧ ∀ k, F' k → F k ∨ w.heap.size ≤ k := by
  obtain ⟨F', h1, h2, h3⟩ := ht
  exact ⟨F', ⟨h1, fun k hk => (h3 k hk).elim (h.new k) fun x => Nat.le_trans h.keep.size x, h.keep.next h2 (fun _ _ x => x) fun i hi x => by have := h.new i x; omega⟩, h2, h3⟩

end Go.Proofs.Ytenijbngmdaakaa
