/- rlog: contracts for New and Learn. Conditions: as the contracts name them. -/
import Derived.Test.YtnignhfallhblaaRlogI
namespace Go.Proofs.Ytnignhfallhblaa
open Go.RowKit
open RM

theorem new_any (w : World) : Calls Try.prog 11 #[] w fun e w' => ∃ b F, e = .returned (.pointer (some ⟨b, 0, none⟩)) ∧ LogAt w' b F ⟨0, []⟩ ∧ Keep (fun _ => False) w w' ∧ ∀ k, F k → w.heap.size ≤ k := by
  have hg := heap_alloc_new w (.cells #[.int .u64 0, .slice none 0 0] 60)
  have hk : Keep (fun _ => False) w (w.alloc (.cells #[.int .u64 0, .slice none 0 0] 60)) := (Keep.refl _ _).alloc _
  have hz : (w.alloc (.cells #[.int .u64 0, .slice none 0 0] 60)).heap.size = w.heap.size + 1 := by simp
  go_enter Try.func11, Try.ntmps11
  go_wp2_with (at_builtin; refine stopAt ?_; intro q hq)
  go_ret
  refine ⟨w.heap.size, fun k => k = w.heap.size, rfl, ⟨.slice none 0 0, [], hg, Row.nil _ _ _, rfl, fun i hi => by simp at hi, rfl, fun k e => by simp [Value.ownBlock] at e, fun k e => by omega, ⟨List.Pairwise.nil, fun e he => by simp at he, fun e he => by simp at he, Nat.zero_le _, by decide⟩⟩, hk, fun k e => by omega⟩

theorem LogIs.to {w w' : World} {b : Nat} {F : Nat → Prop} {g : Lg} {v : Value} {us : List (Nat × Value)} (h : LogIs w b F g v us) (hk : Keep (fun _ => False) w w') : LogTo b F w g w' :=
  ⟨F, ⟨v, us, h.keep hk fun _ _ x => x⟩, hk.mono fun _ _ x => x.elim, fun _ x => .inl x⟩

theorem ins_get (l : List Ent) (s : Nat) (v : List UInt8) (i : Nat) (hi : i < (ins l s v).length) :
    (∀ h : i < below l s, (ins l s v)[i] = l[i]'(by have := below_le l s; omega)) ∧ (i = below l s → (ins l s v)[i] = (s, v)) ∧ (∀ h : below l s < i, (ins l s v)[i] = l[i - 1]'(by rw [ins_length] at hi; omega)) := by
  have hb := below_le l s
  have hl : (l.take (below l s)).length = below l s := by rw [List.length_take]; omega
  rw [ins_length] at hi
  refine ⟨fun h => ?_, fun h => ?_, fun h => ?_⟩
  · apply Option.some.inj
    rw [← List.getElem?_eq_getElem, ← List.getElem?_eq_getElem]
    unfold ins
    rw [List.getElem?_append_left (by omega), List.getElem?_take, if_pos h]
  · apply Option.some.inj
    rw [← List.getElem?_eq_getElem]
    unfold ins
    rw [List.getElem?_append_right (by omega), hl, h, Nat.sub_self]
    rfl
  · apply Option.some.inj
    rw [← List.getElem?_eq_getElem, ← List.getElem?_eq_getElem]
    unfold ins
    rw [List.getElem?_append_right (by omega), hl, List.getElem?_cons, if_neg (by omega), List.getElem?_drop, show below l s + (i - below l s - 1) = i - 1 by omega]

/-- One entry more: the log behind the store. -/
theorem LogIs.insert {w w1 w2 : World} {b : Nat} {F : Nat → Prop} {g : Lg} {v v' : Value} {us : List (Nat × Value)} {s c' : Nat} {ao' : Option Addr} {bs : List UInt8} (h : LogIs w b F g v us) (hk1 : Keep (fun _ => False) w w1)
    (hu : Row w1 5 1 (.slice ao' bs.length c') bs.length (bytesV bs)) (hf : ∀ k, (Value.slice ao' bs.length c').ownBlock = some k → w.heap.size ≤ k)
    (hr : Row w2 32 2 v' (g.l.length + 1) (entsV (us.take (below g.l s) ++ [(s, .slice ao' bs.length c')] ++ us.drop (below g.l s)))) (hk2 : Keep (fun k => v.ownBlock = some k) w1 w2)
    (hv : ∀ k, v'.ownBlock = some k → v.ownBlock = some k ∨ w1.heap.size ≤ k) (ok : RM.Ok { g with l := ins g.l s bs }) :
    LogTo b F w { g with l := ins g.l s bs } (w2.setCell ⟨b, 1, none⟩ v') := by
  have hsz1 := hk1.size
  have hsz2 := hk2.size
  have hk3 : Keep (fun k => k = b) w2 (w2.setCell ⟨b, 1, none⟩ v') := by refine Keep.setCell (Keep.refl _ _) (.inl ?_) _; rfl
  have hbl := heap_lt h.head
  have hvb : v.ownBlock ≠ some b := fun e => (h.own b e).2 rfl
  have hh2 := hk2.get (hk1.get h.head id) hvb
  have hh3 := heap_setCell_same w2 b 1 _ _ v' hh2
  have hsz3 : (w2.setCell ⟨b, 1, none⟩ v').heap.size = w2.heap.size := by simp [World.setCell]
  obtain ⟨w3, hw3⟩ : ∃ w3, w3 = w2.setCell ⟨b, 1, none⟩ v' := ⟨_, rfl⟩
  rw [← hw3] at hk3 hh3 hsz3 ⊢
  have hlen := h.len
  have hbe := below_le g.l s
  have hb2 : v'.ownBlock ≠ some b := fun e => by
    rcases hv b e with x | x
    · exact hvb x
    · omega
  have hil : (ins g.l s bs).length = g.l.length + 1 := ins_length _ _ _
  have kF : Keep F w w3 := (((hk1.mono (fun _ _ x => x.elim : ∀ i, i < w.heap.size → False → F i)).next hk2 (fun _ _ x => x) (fun i _ x => (h.own i x).1)).next hk3 (fun _ _ x => x) (fun i _ x => by rw [x]; exact h.self))
  refine ⟨fun k => F k ∨ (w.heap.size ≤ k ∧ k < w3.heap.size), ⟨v', us.take (below g.l s) ++ [(s, .slice ao' bs.length c')] ++ us.drop (below g.l s), ?_⟩, kF, fun k x => x.imp id And.left⟩
  refine ⟨by rw [hh3]; rfl, ?_, ?_, fun i hi => ?_, .inl h.self, fun k e => ⟨?_, fun x => hb2 (by rw [← x]; exact e)⟩, fun k x => ?_, ok⟩
  · show Row w3 _ 2 v' (ins g.l s bs).length _
    rw [hil]
    exact hr.keep hk3 fun k e x => hb2 (by rw [← x]; exact e)
  · show _ = (ins g.l s bs).map _
    unfold ins
    simp only [List.map_append, List.map_take, List.map_drop, List.map_cons, h.keys, List.append_assoc, List.singleton_append]
  · have hut : (us.take (below g.l s)).length = below g.l s := by rw [List.length_take]; omega
    have old : ∀ j (hj : j < g.l.length), ∃ ao c, (us[j]?.map (·.2)) = some (.slice ao g.l[j].2.length c) ∧ Cells w3 ao g.l[j].2.length 1 (bytesV g.l[j].2) ∧ (0 < g.l[j].2.length → ∀ x, ao = some x → (F x.block ∨ (w.heap.size ≤ x.block ∧ x.block < w3.heap.size)) ∧ x.block ≠ b ∧ v'.ownBlock ≠ some x.block) := fun j hj => by
      obtain ⟨ao, c, h1, h2, h3⟩ := h.each j hj
      have h2' := (h2.keep hk1 (fun _ _ x => x)).keep0 hk2 (fun hp x hx y => (h3 (by omega) x hx).2.2 y)
      refine ⟨ao, c, h1, h2'.keep0 hk3 (fun hp x hx y => (h3 (by omega) x hx).2.1 y), fun hp x hx => ?_⟩
      obtain ⟨q1, q2, q3⟩ := h3 hp x hx
      refine ⟨.inl q1, q2, fun e => ?_⟩
      rcases hv _ e with y | y
      · exact q3 y
      · have := h.lt _ q1; omega
    change i < (ins g.l s bs).length at hi
    dsimp only
    rcases Nat.lt_trichotomy i (below g.l s) with x | x | x
    · have e1 : (ins g.l s bs)[i] = g.l[i]'(by omega) := (ins_get g.l s bs i hi).1 x
      rw [e1, List.append_assoc, List.getElem?_append_left (by omega), List.getElem?_take, if_pos x]
      exact old i (by omega)
    · have e1 : (ins g.l s bs)[i] = (s, bs) := (ins_get g.l s bs i hi).2.1 x
      rw [e1, List.append_assoc, List.getElem?_append_right (by omega), hut, x, Nat.sub_self]
      refine ⟨ao', c', rfl, Cells.of_row ((hu.keep hk2 fun k e y => ?_).keep hk3 fun k e y => ?_), fun hp z hz => ?_⟩
      · have := hf k e; have := h.row.lt y; omega
      · have := hf k e; omega
      · subst hz
        obtain ⟨_, _, hfe, -, -, -, hform⟩ := hu.form
        cases hfe
        obtain ⟨_, ho⟩ := hform _ rfl
        have q1 := hf _ ho
        have q2 := hu.lt ho
        refine ⟨.inr ⟨q1, by omega⟩, by omega, fun e => ?_⟩
        rcases hv _ e with y | y
        · have := h.row.lt y; omega
        · omega
    · have e1 : (ins g.l s bs)[i] = g.l[i - 1]'(by omega) := (ins_get g.l s bs i hi).2.2 x
      rw [e1, List.append_assoc, List.getElem?_append_right (by omega), hut, List.singleton_append, List.getElem?_cons, if_neg (by omega), List.getElem?_drop, show below g.l s + (i - below g.l s - 1) = i - 1 by omega]
      exact old (i - 1) (by omega)
  · rcases hv k e with x | x
    · exact .inl (h.own k x).1
    · exact .inr ⟨by omega, by have := hr.lt e; omega⟩
  · rcases x with x | x
    · have := h.lt k x; omega
    · exact x.2
end Go.Proofs.Ytnignhfallhblaa
